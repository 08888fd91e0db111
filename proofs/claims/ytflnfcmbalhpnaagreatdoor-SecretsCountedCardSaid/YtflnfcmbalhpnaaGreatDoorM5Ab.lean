/- Walks: wittingref05.All, wittingref44.in, other, Says, law (printed by gen_s4a.py). -/
import Derived.Test.YtflnfcmbalhpnaaGreatDoorM5Aa
import Derived.Test.YtflnfcmbalhpnaaGreatDoorM4Bn
import Derived.Test.YtflnfcmbalhpnaaGreatDoorM4Bo
import Derived.Test.YtflnfcmbalhpnaaGreatDoorM5Ac
import Derived.Laws.StructEq
namespace Wt
open Go Go.RowKit Go.Maps Go.Proofs Fm

theorem sn_infoS : (Tryz.prog.info? 29).map (fun i => (i.zero, i.size, i.bytes)) = some (some (.slice none 0 0), 1, 24) := by kernel_rfl
set_option maxHeartbeats 1000000 in
theorem r44in_any (x lo hi : Int) (w : World) :
    Calls Tryz.prog 54 #[.int .i64 x, .int .i64 lo, .int .i64 hi] w fun e w' => e = .returned (.bool (btw x lo hi)) ∧ w = w' := by
  unfold btw
  cases h1 : decide (lo ≤ x) <;> cases h2 : decide (x ≤ hi)
  all_goals
    go_enter Tryz.func54, Tryz.ntmps54
    go_wp2
    go_ret
    exact ⟨rfl, rfl⟩
set_option maxHeartbeats 1000000 in
theorem r44other_any (n i : Nat) (hn : 2 ≤ n ∧ n ≤ 3) (hi : i < n) (w : World) :
    Calls Tryz.prog 56 #[.int .i64 (n : Int), .int .i64 (i : Int)] w fun e w' => e = .returned (.int .i64 (othC n i : Int)) ∧ w = w' := by
  rcases (show (n = 2 ∧ i = 0) ∨ (n = 2 ∧ i = 1) ∨ (n = 3 ∧ i = 0) ∨ (n = 3 ∧ i = 1) ∨ (n = 3 ∧ i = 2) by omega) with ⟨rfl, rfl⟩ | ⟨rfl, rfl⟩ | ⟨rfl, rfl⟩ | ⟨rfl, rfl⟩ | ⟨rfl, rfl⟩
  all_goals
    go_enter Tryz.func56, Tryz.ntmps56
    go_wp2
    go_ret
    exact ⟨rfl, rfl⟩
theorem fok_notS {a : Fm} (ha : fok a) : fok (.un 4 0 0 0 a) := ⟨rfl, rfl, rfl, by simp [needless, useOf], by simp [wide, useOf, outs], ha⟩
theorem isF_iff {f g : List Nd} {a b : Fm} (h : IsF f a) (h2 : IsF g b) (hs : fsize (.bin 8 0 0 0 a b) ≤ 200) : IsF (ccIff f g) (.bin 8 0 0 0 a b) := isF_bin h h2 (fok_iff h.fk h2.fk) hs rfl
theorem fsize_leaf (o i e q : Int) : fsize (.leaf o i e q) ≤ 1 := by simp [fsize, addT, put]
set_option maxRecDepth 20000 in
set_option maxHeartbeats 2000000 in
theorem r44says_any (n a : Nat) (hn : 2 ≤ n ∧ n ≤ 3) (ha : a < n) (w : World) :
    Calls Tryz.prog 15 #[.int .i64 (n : Int), .int .i64 (a : Int)] w fun e w' => RetNe (sayF n a) 0 e w w' := by
  have hb1 : btw (n : Int) 2 3 = true := btw_yes (by omega)
  have hb2 : btw (a : Int) 0 ((n : Int) - 1) = true := btw_yes (by omega)
  have hd8 : othC n a < n := Nat.mod_lt _ (by omega)
  have HC := Lib.hid (r44other_any n a hn ha)
  have HS := Lib.hid (say_eq n a)
  obtain ⟨c, hc⟩ : ∃ c, c = n + a := ⟨_, rfl⟩
  obtain ⟨d, hd⟩ : ∃ d, d = n + othC n a := ⟨_, rfl⟩
  have hcI : (n : Int) + (a : Int) = (c : Int) := by omega
  have hdI : (n : Int) + (othC n a : Int) = (d : Int) := by omega
  rw [← hc, ← hd] at HS
  have hc6 : c < 8 := by omega
  have hd6 : d < 8 := by omega
  have ia := isF_fact (show a < 8 by omega)
  have ic := isF_fact (show c < 8 by omega)
  have id' := isF_fact (show d < 8 by omega)
  have s1 : fsize (.bin 8 0 0 0 (.leaf 3 (c : Int) 0 0) (.leaf 3 (d : Int) 0 0)) ≤ 3 := by
    have := fsize_bin (a := .leaf 3 (c : Int) 0 0) (b := .leaf 3 (d : Int) 0 0) 8 0 0 0
    have := fsize_leaf 3 (c : Int) 0 0
    have := fsize_leaf 3 (d : Int) 0 0
    omega
  have s2 : fsize (.bin 8 0 0 0 (.bin 8 0 0 0 (.leaf 3 (c : Int) 0 0) (.leaf 3 (d : Int) 0 0)) (.leaf 3 (a : Int) 0 0)) ≤ 10 := by
    have := fsize_bin (a := .bin 8 0 0 0 (.leaf 3 (c : Int) 0 0) (.leaf 3 (d : Int) 0 0)) (b := .leaf 3 (a : Int) 0 0) 8 0 0 0
    have := fsize_leaf 3 (a : Int) 0 0
    omega
  have i2 := isF_iff ic id' (by omega)
  have HFA := Lib.hid (r5Fact_any a (by omega))
  have HFC := Lib.hid (r5Fact_any c (by omega))
  have HFD := Lib.hid (r5Fact_any d (by omega))
  have HI1 := Lib.hid (fun W a1 c1 a2 c2 (h1 : RN W a1 (ccFact (c : Int))) (h2 : RN W a2 (ccFact (d : Int))) => r5Iff_any a1 c1 _ a2 c2 _ _ _ W h1 h2 ic id' (fok_iff ic.fk id'.fk) (by omega))
  have HI2 := Lib.hid (fun W a1 c1 a2 c2 (h1 : RN W a1 (ccIff (ccFact (c : Int)) (ccFact (d : Int)))) (h2 : RN W a2 (ccFact (a : Int))) => r5Iff_any a1 c1 _ a2 c2 _ _ _ W h1 h2 i2 ia (fok_iff i2.fk ia.fk) (by omega))
  generalize hsf : sayF n a = SF at *
  have HSF := Lib.hid hsf
  generalize othC n a = oc at *
  clear hsf hc hd ia ic id' i2 s1 s2 hd8
  go_enter Tryz.func15, Tryz.ntmps15
  go_wp2_with (first | (go_at_call 54; refine (r44in_any _ _ _ _).mono ?_; rintro _ _ ⟨rfl, rfl⟩) | fail)
  refine (HFC.out _).mono ?_
  rintro _ w2 ⟨a2, c2, rfl, h2, -, hE2⟩
  dsimp only
  go_wp2_with (first | (go_at_call 56; refine (HC.out _).mono ?_; rintro _ _ ⟨rfl, rfl⟩) | fail)
  refine (HFD.out _).mono ?_
  rintro _ w3 ⟨a3, c3, rfl, h3, -, hE3⟩
  dsimp only
  go_wp2_with fail
  refine (HI1.out _ _ _ _ _ (h2.ext hE3) h3).mono ?_
  rintro _ w4 ⟨a4, c4, rfl, h4, -, hE4⟩
  dsimp only
  go_wp2_with fail
  refine (HFA.out _).mono ?_
  rintro _ w5 ⟨a5, c5, rfl, h5, -, hE5⟩
  dsimp only
  go_wp2_with fail
  refine (HI2.out _ _ _ _ _ (h4.ext hE5) h5).mono ?_
  rintro _ w6 ⟨a6, c6, rfl, h6, -, hE6⟩
  dsimp only
  go_wp2_with fail
  go_ret2
  first | rw [HSF.out, HS.out] | rw [HS.out]
  exact ⟨a6, c6, rfl, h6, hE2.trans (hE3.trans (hE4.trans (hE5.trans hE6)))⟩
def StayN (g : Option Nat) (w : World) (a : Option Addr) (l : List Nd) : Prop := ∀ w', (∀ k, k < w.heap.size → some k ≠ g → w'.heap[k]? = w.heap[k]?) → RN w' a l
theorem StayN.ext {g : Option Nat} {w w1 : World} {a : Option Addr} {l : List Nd} (h : StayN g w a l) (e : Ext w w1) : StayN g w1 a l :=
  fun w' hk => h w' fun k h1 h2 => (hk k (Nat.lt_of_lt_of_le h1 e.size) h2).trans (e.block k h1)
theorem StayN.new {g : Option Nat} {n : Nat} {w : World} {a : Option Addr} {l : List Nd} (hg : ∀ k, g = some k → k < n) (hr : RN w a l) (hf : Fresh a n) : StayN g w a l := fun w' hk => by
  by_cases h0 : 0 < l.length
  · refine hr.keepB fun b off e => ?_
    subst e
    obtain ⟨b', o', e', hb', -⟩ := hr.get h0
    cases e'
    exact hk _ hb' fun e => by have h1 := hg _ e.symm; have h2 := hf _ _ rfl; omega
  · obtain rfl : l = [] := List.eq_nil_of_length_eq_zero (by omega)
    exact RN.nil _ _
structure FK (W0 : World) (L : List (List Nd)) (svs : List Value) (v : Value) (w : World) : Prop where
  e : Ext W0 w
  len : svs.length = L.length
  own : w.ownsRow W0.heap.size 29 1 v svs.length svs
  rd : ∀ j, j < L.length → ∃ a c, nth svs j = .slice a (nth L j).length c ∧ StayN v.ownBlock w a (nth L j)
def FKV (W0 : World) (L : List (List Nd)) (v : Value) (w : World) : Prop := ∃ svs, FK W0 L svs v w
section
variable {W0 w w' W1 : World} {L : List (List Nd)} {svs : List Value} {v v' : Value}
theorem FK.nil (W0 : World) : FK W0 [] [] (.slice none 0 0) W0 := ⟨Ext.refl _, rfl, World.ownsRow_nil _ _ _ _, fun j hj => absurd hj (by simp)⟩
theorem FK.ext' (h : FK W0 L svs v w) (e : Ext w w') : FK W0 L svs v w' := by
  have hk : ∀ {T sz m : Nat} {v : Value} {xs : List Value}, w.ownsRow W0.heap.size T sz v m xs → w'.ownsRow W0.heap.size T sz v m xs := fun {_ _ _ v _} ho => ho.kept (row := none) ⟨e.os, e.tape, e.output, e.size, fun k hk _ => e.block k hk⟩ (by cases v.ownBlock <;> simp)
  exact ⟨h.e.trans e, h.len, hk h.own, fun j hj => by
    obtain ⟨a, c, h1, h2⟩ := h.rd j hj
    exact ⟨a, c, h1, h2.ext e⟩⟩
theorem StayN.grown {a : Option Addr} {l : List Nd} {g : Nat} (h : StayN v.ownBlock w a l) (hg : w.grownBy W1 v.ownBlock) (hat : v.ownBlock = some g ∨ g = w.heap.size) : StayN (some g) W1 a l :=
  fun w' hk => h w' fun k h1 h2 => by
    refine (hk k (Nat.lt_of_lt_of_le h1 hg.size) fun e => ?_).trans (hg.block k h1 h2)
    rcases hat with h3 | h3
    · exact h2 (e.trans h3.symm)
    · cases e; omega
theorem FK.push (h : FK W0 L svs v w) {a : Option Addr} {c g n cap : Nat} {l : List Nd} (hs : StayN v.ownBlock w a l) (ho : W1.ownsRow W0.heap.size 29 1 (.slice (some ⟨g, 0, none⟩) n cap) (svs.length + 1) (svs ++ [.slice a l.length c])) (hg : w.grownBy W1 v.ownBlock) (hat : v.ownBlock = some g ∨ g = w.heap.size) : FK W0 (L ++ [l]) (svs ++ [.slice a l.length c]) (.slice (some ⟨g, 0, none⟩) n cap) W1 := by
  refine ⟨Below.grown h.e hg h.e.size (fun k hk => (h.own.lt k hk).1), by simp [h.len], by rw [List.length_append]; exact ho, fun j hj => ?_⟩
  by_cases hj2 : j < L.length
  · rw [nth_appL _ _ (by rw [h.len]; exact hj2), nth_appL _ _ hj2]
    obtain ⟨a, c, h1, h2⟩ := h.rd j hj2
    exact ⟨a, c, h1, h2.grown hg hat⟩
  · have e : j = L.length := by simp at hj; omega
    subst e
    have e1 := nth_appR svs [.slice a l.length c] (k := 0) (by simp)
    have e2 := nth_appR L [l] (k := 0) (by simp)
    rw [Nat.add_zero, h.len] at e1
    rw [Nat.add_zero] at e2
    rw [e1, e2]; exact ⟨a, c, rfl, hs.grown hg hat⟩
theorem FK.rnn (h : FK W0 L svs v w) (h1 : L.length ≤ 1000) : ∃ a c, v = .slice a L.length c ∧ RNN w a L := by
  have hl := h.len
  rcases h.own.2 with ⟨rfl, h0⟩ | ⟨g, cap, cur, rfl, hb, hg, hnc, hcm, hcs, htake⟩
  · have : L = [] := List.eq_nil_of_length_eq_zero (by omega)
    subst this
    exact ⟨none, 0, rfl, RNN.nil _ _⟩
  · refine ⟨some ⟨g, 0, none⟩, cap, by rw [hl], by omega, fun k hk => ?_⟩
    obtain ⟨a', c', hv, hr⟩ := h.rd k hk
    refine ⟨g, 0, a', c', rfl, (Array.getElem?_eq_some_iff.1 hg).1, ?_, hr w fun _ _ _ => rfl⟩
    rw [cell_of_row w g _ cur _ (0, 0) hg, Nat.zero_add, ← hv]
    have h3 : svs[k]? = some (nth svs k) := by rw [nth_eq svs k (by omega)]; simp [show k < svs.length by omega]
    have h4 : (cur.toList.take (svs.length * 1))[k]? = some (nth svs k) := by rw [htake]; exact h3
    rw [List.getElem?_take, if_pos (by omega)] at h4
    simpa using h4
end
def allTo (L : List (List Nd)) : Nat → List Nd
  | 0 => []
  | 1 => fCompact (nth L 0)
  | k + 2 => ccAnd (allTo L (k + 1)) (nth L (k + 1))
def allOk (L : List (List Nd)) : Bool := (List.range L.length).all fun k => k == 0 || (fCheck (allTo L k) == 0 && fCheck (nth L k) == 0 && decide (fsize (.bin 5 0 0 0 (rt (allTo L k)) (rt (nth L k))) ≤ 200))
set_option maxHeartbeats 2000000 in
theorem r5All_any (oa : Option Addr) (oc : Nat) (L : List (List Nd)) (w : World) (hr : RNN w oa L) (h0 : 0 < L.length) (hok : allOk L = true) :
    Calls Tryz.prog 92 #[.slice oa L.length oc] w fun e w' => RetN (allTo L L.length) e w w' := by
  have hl := hr.len
  obtain ⟨b, off, a', c', rfl, hb, hc, hu⟩ := hr.get 0 h0
  have HU := Lib.hid hu
  have HR := Lib.hid hr
  have hq0 : ((L.length : Int) == 0) = false := beq_eq_false_iff_ne.2 (by omega)
  have HA1 : Hid (allTo L 1 = fCompact (nth L 0)) := Lib.hid rfl
  have HOK : Hid (∀ k, k < L.length → k ≠ 0 → fCheck (allTo L k) = 0 ∧ fCheck (nth L k) = 0 ∧ fsize (.bin 5 0 0 0 (rt (allTo L k)) (rt (nth L k))) ≤ 200) := Lib.hid fun k hk h1 => by
    have h := List.all_eq_true.1 hok k (List.mem_range.2 hk)
    rw [Bool.or_eq_true] at h
    rcases h with h | h
    · exact absurd (eq_of_beq h) h1
    · simp only [Bool.and_eq_true, beq_iff_eq, decide_eq_true_eq] at h
      exact ⟨h.1.1, h.1.2, h.2⟩
  rw [Nat.add_zero] at hc
  clear hu hr hok
  go_enter Tryz.func92, Tryz.ntmps92
  go_wp2_with (go_at_call 114; refine (r5Compact_any a' c' (nth L 0) _ HU.out).mono ?_; rintro _ w1 ⟨a1, c1, rfl, h1, hE1⟩; have HR1 := Lib.hid h1; have HE1 := Lib.hid hE1; clear h1 hE1)
  rw [← HA1.out] at HR1 ⊢
  clear hc hb
  go_loopw [3, 4] (fun s i wr => ∃ k : Nat, 1 ≤ k ∧ k ≤ L.length ∧ i = .int .i64 (k : Int) ∧ (∃ sa sc, s = .slice sa (allTo L k).length sc ∧ Hid (RN wr sa (allTo L k))) ∧ Hid (Ext w wr)) (fun _ i _ => L.length - (intOf i).toNat)
  case atStart => exact ⟨1, Nat.le_refl _, h0, rfl, ⟨a1, c1, rfl, HR1⟩, HE1⟩
  case round =>
    obtain ⟨k, hk1, hk, rfl, ⟨sa, sc, rfl, HRS⟩, HER⟩ := hrel
    by_cases hlt : k < L.length
    · obtain ⟨b2, off2, a2, c2, he, hb2, hc2, hu2⟩ := (HR.out.ext HER.out).get k hlt
      simp only [Option.some.injEq, Addr.mk.injEq] at he
      obtain ⟨rfl, rfl, -⟩ := he
      obtain ⟨o1, o2, o3⟩ := HOK.out k hlt (by omega)
      have HAN := Lib.hid (r5And_any sa sc (allTo L k) a2 c2 (nth L k) _ _ _ HRS.out hu2 (IsF.of o1) (IsF.of o2) (fok_and (IsF.of o1).fk (IsF.of o2).fk) o3)
      have HST : Hid (allTo L (k + 1) = fB ⟨5, 0, 0, 0, 0, 0⟩ [allTo L k, nth L k]) := Lib.hid (by
        obtain ⟨j, rfl⟩ : ∃ j, k = j + 1 := ⟨k - 1, by omega⟩
        rfl)
      rw [← HST.out] at HAN
      generalize ha2 : allTo L (k + 1) = A2 at *
      have HA2 := Lib.hid ha2
      clear ha2
      generalize allTo L k = A1 at *
      clear o1 o2 o3 hu2
      go_wp2_with (go_at_call 91; refine HAN.out.mono ?_; rintro _ w2 ⟨a3, c3, rfl, h3, -, hE3⟩; have HR3 := Lib.hid h3; have HE3 := Lib.hid hE3; clear h3 hE3)
      go_roundw
      case rel => exact ⟨k + 1, by omega, hlt, by go_num, ⟨a3, c3, by rw [HA2.out, HST.out], by rw [HA2.out]; exact HR3⟩, HER.out.trans HE3.out⟩
      case measure => simp [intOf]; omega
    · obtain rfl : k = L.length := by omega
      go_wp2
      go_ret
      exact ⟨sa, sc, rfl, HRS.out, HER.out⟩
end Wt

namespace Wt
open Go Go.RowKit Go.Maps Go.Proofs Fm
theorem guard_node : Tryz.prog.eqGuardType Tryz.prog.depth 73 = false := by kernel_rfl
theorem fields_node : Tryz.prog.underlying 73 = some (.struct (Tryz.prog.fieldsOf 73)) := by kernel_rfl
theorem held_node : Tryz.prog.stoodInHeld 73 = false := by kernel_rfl
theorem list_node : (Tryz.prog.fieldsOf 73).toList.map (fun f => (f.name, f.type, f.offset)) = [("Op", 3, 0), ("I", 3, 1), ("E", 3, 2), ("G", 3, 3), ("X", 3, 4), ("Y", 3, 5)] := by kernel_rfl
end Wt
