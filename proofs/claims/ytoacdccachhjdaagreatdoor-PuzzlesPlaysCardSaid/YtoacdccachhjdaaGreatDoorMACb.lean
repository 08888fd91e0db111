/- Lists of formulas under way in memory (printed by gen_zf.py out of XS4A, XBldB). -/
import Derived.Test.YtoacdccachhjdaaGreatDoorMAAt
import Derived.Test.YtoacdccachhjdaaGreatDoorMAAq
import Derived.Test.YtoacdccachhjdaaGreatDoorMAAo
namespace Wt
open Go Go.RowKit Go.Maps Go.Proofs Fm

theorem sn_infoZ : (Tryz.prog.info? 44).map (fun i => (i.zero, i.size, i.bytes)) = some (some (.slice none 0 0), 1, 24) := by kernel_rfl
theorem Fresh.monoZ {a : Option Addr} {n m : Nat} (h : Fresh a n) (hm : m ≤ n) : Fresh a m := fun b off e => Nat.le_trans hm (h b off e)
/-- It reads as this formula as long as only one block changes. -/
def StayN (g : Option Nat) (w : World) (a : Option Addr) (l : List Nd) : Prop := ∀ w', (∀ k, k < w.heap.size → some k ≠ g → w'.heap[k]? = w.heap[k]?) → RN w' a l
theorem StayN.ext {g : Option Nat} {w w1 : World} {a : Option Addr} {l : List Nd} (h : StayN g w a l) (e : Ext w w1) : StayN g w1 a l :=
  fun w' hk => h w' fun k h1 h2 => (hk k (Nat.lt_of_lt_of_le h1 e.size) h2).trans (e.block k h1)
theorem StayN.new {g : Option Nat} {n : Nat} {w : World} {a : Option Addr} {l : List Nd} (hg : ∀ k, g = some k → k < n) (hr : RN w a l) (hf : Fresh a n) : StayN g w a l := fun w' hk => by
  by_cases h0 : 0 < l.length
  · refine hr.keepB fun b off e => ?_
    subst e
    obtain ⟨b', o', e', hb', -⟩ := hr.get h0
    cases e'
    exact hk _ hb' fun e => by have h1 := hg _ e.symm; have h2 := hf _ _ rfl; omega
  · obtain rfl : l = [] := List.eq_nil_of_length_eq_zero (by omega)
    exact RN.nil _ _
/-- A list of formulas that the call has made. -/
structure FK (W0 : World) (L : List (List Nd)) (svs : List Value) (v : Value) (w : World) : Prop where
  e : Ext W0 w
  len : svs.length = L.length
  own : w.ownsRow W0.heap.size 44 1 v svs.length svs
  rd : ∀ j, j < L.length → ∃ a c, nth svs j = .slice a (nth L j).length c ∧ StayN v.ownBlock w a (nth L j)
def FKV (W0 : World) (L : List (List Nd)) (v : Value) (w : World) : Prop := ∃ svs, FK W0 L svs v w
section
variable {W0 w w' W1 : World} {L : List (List Nd)} {svs : List Value} {v v' : Value}
theorem FK.nil (W0 : World) : FK W0 [] [] (.slice none 0 0) W0 := ⟨Ext.refl _, rfl, World.ownsRow_nil _ _ _ _, fun j hj => absurd hj (by simp)⟩
theorem FK.ext' (h : FK W0 L svs v w) (e : Ext w w') : FK W0 L svs v w' := by
  have hk : ∀ {T sz m : Nat} {v : Value} {xs : List Value}, w.ownsRow W0.heap.size T sz v m xs → w'.ownsRow W0.heap.size T sz v m xs := fun {_ _ _ v _} ho => ho.kept (row := none) ⟨e.os, e.tape, e.output, e.size, fun k hk _ => e.block k hk⟩ (by cases v.ownBlock <;> simp)
  exact ⟨h.e.trans e, h.len, hk h.own, fun j hj => by
    obtain ⟨a, c, h1, h2⟩ := h.rd j hj
    exact ⟨a, c, h1, h2.ext e⟩⟩
theorem StayN.grown {a : Option Addr} {l : List Nd} {g : Nat} (h : StayN v.ownBlock w a l) (hg : w.grownBy W1 v.ownBlock) (hat : v.ownBlock = some g ∨ g = w.heap.size) : StayN (some g) W1 a l :=
  fun w' hk => h w' fun k h1 h2 => by
    refine (hk k (Nat.lt_of_lt_of_le h1 hg.size) fun e => ?_).trans (hg.block k h1 h2)
    rcases hat with h3 | h3
    · exact h2 (e.trans h3.symm)
    · cases e; omega
theorem FK.push (h : FK W0 L svs v w) {a : Option Addr} {c g n cap : Nat} {l : List Nd} (hs : StayN v.ownBlock w a l) (ho : W1.ownsRow W0.heap.size 44 1 (.slice (some ⟨g, 0, none⟩) n cap) (svs.length + 1) (svs ++ [.slice a l.length c])) (hg : w.grownBy W1 v.ownBlock) (hat : v.ownBlock = some g ∨ g = w.heap.size) : FK W0 (L ++ [l]) (svs ++ [.slice a l.length c]) (.slice (some ⟨g, 0, none⟩) n cap) W1 := by
  refine ⟨Below.grown h.e hg h.e.size (fun k hk => (h.own.lt k hk).1), by simp [h.len], by rw [List.length_append]; exact ho, fun j hj => ?_⟩
  by_cases hj2 : j < L.length
  · rw [nth_appL _ _ (by rw [h.len]; exact hj2), nth_appL _ _ hj2]
    obtain ⟨a, c, h1, h2⟩ := h.rd j hj2
    exact ⟨a, c, h1, h2.grown hg hat⟩
  · have e : j = L.length := by simp at hj; omega
    subst e
    have e1 := nth_appR svs [.slice a l.length c] (k := 0) (by simp)
    have e2 := nth_appR L [l] (k := 0) (by simp)
    rw [Nat.add_zero, h.len] at e1
    rw [Nat.add_zero] at e2
    rw [e1, e2]; exact ⟨a, c, rfl, hs.grown hg hat⟩
theorem FK.rnn (h : FK W0 L svs v w) (h1 : L.length ≤ 1000) : ∃ a c, v = .slice a L.length c ∧ RNN w a L := by
  have hl := h.len
  rcases h.own.2 with ⟨rfl, h0⟩ | ⟨g, cap, cur, rfl, hb, hg, hnc, hcm, hcs, htake⟩
  · have : L = [] := List.eq_nil_of_length_eq_zero (by omega)
    subst this
    exact ⟨none, 0, rfl, RNN.nil _ _⟩
  · refine ⟨some ⟨g, 0, none⟩, cap, by rw [hl], by omega, fun k hk => ?_⟩
    obtain ⟨a', c', hv, hr⟩ := h.rd k hk
    refine ⟨g, 0, a', c', rfl, (Array.getElem?_eq_some_iff.1 hg).1, ?_, hr w fun _ _ _ => rfl⟩
    rw [cell_of_row w g _ cur _ (0, 0) hg, Nat.zero_add, ← hv]
    have h3 : svs[k]? = some (nth svs k) := by rw [nth_eq svs k (by omega)]; simp [show k < svs.length by omega]
    have h4 : (cur.toList.take (svs.length * 1))[k]? = some (nth svs k) := by rw [htake]; exact h3
    rw [List.getElem?_take, if_pos (by omega)] at h4
    simpa using h4
end
/-- The conjunction of the first formulas. -/
def allTo (L : List (List Nd)) : Nat → List Nd
  | 0 => []
  | 1 => fCompact (nth L 0)
  | k + 2 => ccAnd (allTo L (k + 1)) (nth L (k + 1))
theorem FK.rnnc {W0 w : World} {L : List (List Nd)} {svs : List Value} {v : Value} (h : FK W0 L svs v w) (h1 : L.length ≤ 1000) (h0 : 0 < L.length) : ∃ a c, v = .slice a L.length c ∧ RNN w a L ∧ L.length ≤ c := by
  have hl := h.len
  obtain ⟨a, c, hv, hr⟩ := h.rnn h1
  refine ⟨a, c, hv, hr, ?_⟩
  rcases h.own.2 with ⟨e, h2⟩ | ⟨g, cap, cur, e, hb, hg, hnc, hcm, hcs, htake⟩
  · omega
  · rw [e] at hv
    simp only [Value.slice.injEq] at hv
    omega
set_option maxHeartbeats 1000000 in
theorem cNot_freshZ (fa : Option Addr) (fc : Nat) (f : List Nd) (w : World) (hf : RN w fa f) :
    Calls Tryz.prog 32 #[.slice fa f.length fc] w fun e w' => RetNF (fB ⟨4, 0, 0, 0, 0, 0⟩ [f]) e w w' := by
  have H := Lib.hid (build_fresh ⟨4, 0, 0, 0, 0, 0⟩ (some ⟨w.heap.size, 0, none⟩) 1 [f] _ (RNN.one w fa fc f 44 hf) (by simp))
  go_enter Tryz.func32, Tryz.ntmps32
  go_wp2_with (go_at_call 82; go_loud (refine H.out.mono ?_; rintro e w1 ⟨a1, c1, rfl, h1, hfr, hE⟩))
  go_ret
  exact ⟨a1, c1, rfl, h1, hfr.monoZ (by simp), ((Ext.refl w).alloc _).trans hE⟩
set_option maxHeartbeats 1000000 in
theorem cAnd_freshZ (fa : Option Addr) (fc : Nat) (f : List Nd) (ga : Option Addr) (gc : Nat) (g : List Nd) (w : World) (hf : RN w fa f) (hg : RN w ga g) :
    Calls Tryz.prog 35 #[.slice fa f.length fc, .slice ga g.length gc] w fun e w' => RetNF (fB ⟨5, 0, 0, 0, 0, 0⟩ [f, g]) e w w' := by
  have H := Lib.hid (build_fresh ⟨5, 0, 0, 0, 0, 0⟩ (some ⟨w.heap.size, 0, none⟩) 2 [f, g] _ (RNN.two w fa ga fc gc f g 44 hf hg) (by simp))
  go_enter Tryz.func35, Tryz.ntmps35
  go_wp2_with (go_at_call 82; go_loud (refine H.out.mono ?_; rintro e w1 ⟨a1, c1, rfl, h1, hfr, hE⟩))
  go_ret
  exact ⟨a1, c1, rfl, h1, hfr.monoZ (by simp), ((Ext.refl w).alloc _).trans hE⟩
set_option maxHeartbeats 1000000 in
theorem cOr_freshZ (fa : Option Addr) (fc : Nat) (f : List Nd) (ga : Option Addr) (gc : Nat) (g : List Nd) (w : World) (hf : RN w fa f) (hg : RN w ga g) :
    Calls Tryz.prog 81 #[.slice fa f.length fc, .slice ga g.length gc] w fun e w' => RetNF (fB ⟨6, 0, 0, 0, 0, 0⟩ [f, g]) e w w' := by
  have H := Lib.hid (build_fresh ⟨6, 0, 0, 0, 0, 0⟩ (some ⟨w.heap.size, 0, none⟩) 2 [f, g] _ (RNN.two w fa ga fc gc f g 44 hf hg) (by simp))
  go_enter Tryz.func81, Tryz.ntmps81
  go_wp2_with (go_at_call 82; go_loud (refine H.out.mono ?_; rintro e w1 ⟨a1, c1, rfl, h1, hfr, hE⟩))
  go_ret
  exact ⟨a1, c1, rfl, h1, hfr.monoZ (by simp), ((Ext.refl w).alloc _).trans hE⟩
end Wt

/- Walks: formula.join, All; puzzles.Whether, places, Silence, Value, Learned. -/
namespace Wt
open Go Go.RowKit Go.Maps Go.Proofs Fm

def ccKnow (a : Int) (f : List Nd) : List Nd := fB ⟨9, a, 0, 0, 0, 0⟩ [f]
/-- The conjunction of a list. -/
def joinL (L : List (List Nd)) : List Nd := if L = [] then ccTrue else allTo L L.length
theorem joinL_pos {L : List (List Nd)} (h : 0 < L.length) : joinL L = allTo L L.length := if_neg (fun e => by rw [e] at h; exact absurd h (Nat.lt_irrefl _))
theorem allTo_step (L : List (List Nd)) (k : Nat) : allTo L (k + 2) = ccAnd (allTo L (k + 1)) (nth L (k + 1)) := rfl
theorem RNN.tail {w : World} {b off : Nat} {L : List (List Nd)} (h : RNN w (some ⟨b, off, none⟩) L) : ∀ k, k + 1 < L.length → ∃ a' c', b < w.heap.size ∧ w.cell? ⟨b, off + 1 + k, none⟩ = some (.slice a' (nth L (k + 1)).length c') ∧ RN w a' (nth L (k + 1)) := fun k hk => by
  obtain ⟨b', off', a', c', e, h1, h2, h3⟩ := h.get (k + 1) hk
  simp only [Option.some.injEq, Addr.mk.injEq] at e
  obtain ⟨rfl, rfl, -⟩ := e
  exact ⟨a', c', h1, by rw [show off + 1 + k = off + (k + 1) by omega]; exact h2, h3⟩
theorem cf_and (args : Array Value) (W : World) : (callFunc 35 args).run Tryz.prog W = .ok (.enter 35 args) W := by
  exact enters_of Tryz.func35 (by kernel_rfl) rfl args W
/-- A formula, or none where an operand has an error: what formula.Compact makes of it. -/
def RetNFe (l : List Nd) (c : Int) (e : Ending) (w w' : World) : Prop := ∃ a cp, e = .returned (.tuple #[.slice a l.length cp, .int .i64 c]) ∧ RN w' a l ∧ Fresh a w.heap.size ∧ Ext w w'
set_option maxRecDepth 20000 in
set_option maxHeartbeats 4000000 in
theorem joinAnd_any (oa : Option Addr) (oc : Nat) (L : List (List Nd)) (ea : Option Addr) (ec en : Nat) (w : World) (hr : RNN w oa L) (h0 : 0 < L.length) (hoc : L.length ≤ oc) (hc : fCheck (nth L 0) = 0) :
    Calls Tryz.prog 121 #[.slice oa L.length oc, .slice ea en ec, .func (.func 35) #[] #[]] w fun e w' => RetN (allTo L L.length) e w w' := by
  have HR := Lib.hid hr
  have hl := hr.len
  have hF := cf_and
  obtain ⟨b, off, a0, c0, rfl, hb, hc0, hn0⟩ := hr.get 0 h0
  rw [Nat.add_zero] at hc0
  have HC := Lib.hid (compactF_fresh a0 c0 (nth L 0) w hn0 hc)
  have hq : ((L.length : Int) == 0) = false := by rw [beq_eq_false_iff_ne]; omega
  clear hr hn0 hc
  go_enter Tryz.func121, Tryz.ntmps121
  go_wp2_with fail
  refine HC.out.mono ?_
  rintro _ w1 ⟨a1, c1, rfl, h1, -, hE1⟩
  have HR1 := Lib.hid (HR.out.ext hE1)
  have HN1 := Lib.hid h1
  have HE1 := Lib.hid hE1
  have HT1 : Hid (allTo L 1 = fCompact (nth L 0)) := Lib.hid rfl
  clear hE1 h1 HC hb hc0
  rw [← HT1.out] at HN1 ⊢
  have hln1 : ((L.length - 1 : Nat) : Int) = (L.length : Int) - 1 := by omega
  clear hln1
  dsimp only
  by_cases hoc1 : oc = 1
  · have hL1 : L.length = 1 := by omega
    have hd : decide ((0 : Int) < ((L.length - 1 : Nat) : Int)) = false := decide_eq_false (by omega)
    have HL1 := Lib.hid hL1
    subst hoc1
    clear hL1
    go_wp2_with fail
    go_loopw [7, 21] (fun v i wr => v = .slice a1 (allTo L 1).length c1 ∧ i = .int .i64 0 ∧ wr = w1) (fun _ _ _ => 0)
    case atStart => exact ⟨rfl, rfl, rfl⟩
    case round =>
      obtain ⟨rfl, rfl, rfl⟩ := hrel
      go_wp2_with fail
      go_ret
      rw [HL1.out]
      exact ⟨a1, c1, rfl, HN1.out, HE1.out⟩
  · go_wp2_with fail
    go_loopw [7, 21] (fun v i wr => ∃ k : Nat, k + 1 ≤ L.length ∧ i = .int .i64 (k : Int) ∧ ∃ a c, v = .slice a (allTo L (k + 1)).length c ∧ Hid (RN wr a (allTo L (k + 1))) ∧ Hid (Ext w1 wr)) (fun _ i _ => L.length - (RowKit.intOf i).toNat)
    case atStart => exact ⟨0, h0, rfl, a1, c1, rfl, HN1, Lib.hid (Ext.refl _)⟩
    case round =>
      obtain ⟨k, hk, rfl, a2, c2, rfl, HN2, HX2⟩ := hrel
      by_cases hkl : k + 1 < L.length
      · obtain ⟨a3, c3, hb3, hc3, hn3⟩ := (HR1.out.ext HX2.out).tail k hkl
        have hd : decide ((k : Int) < ((L.length - 1 : Nat) : Int)) = true := decide_eq_true (by omega)
        have hi1 : (0 : Int) ≤ (k : Int) := by omega
        have hi2 : (k : Int) < ((L.length - 1 : Nat) : Int) := by omega
        have hkn : k < L.length - 1 := by omega
        have HST := Lib.hid (allTo_step L k)
        have HAN := Lib.hid (cAnd_any a2 c2 (allTo L (k + 1)) a3 c3 (nth L (k + 1)) wr HN2.out hn3)
        have hl2 := HN2.out.len
        have hl3 := hn3.len
        clear hn3
        generalize allTo L (k + 1) = X at *
        generalize nth L (k + 1) = Y at *
        go_wp2_with fail
        refine HAN.out.mono ?_
        rintro _ w4 ⟨a4, c4, rfl, h4, hE4⟩
        dsimp only
        go_wp2_with fail
        go_roundw
        case rel => exact ⟨k + 1, by omega, by go_num, a4, c4, by rw [HST.out]; rfl, Lib.hid (by rw [HST.out]; exact h4), Lib.hid (HX2.out.trans hE4)⟩
        case measure => simp [RowKit.intOf]; omega
      · have hkk : k + 1 = L.length := by omega
        have hd : decide ((k : Int) < ((L.length - 1 : Nat) : Int)) = false := decide_eq_false (by omega)
        rw [hkk] at HN2 ⊢
        go_wp2_with fail
        go_ret
        exact ⟨a2, c2, rfl, HN2.out, HE1.out.trans HX2.out⟩
/-- Whether a number in facts is within the limits. -/
def placesB (f n : Int) : Bool := decide (0 ≤ f ∧ f < 8 ∧ 1 ≤ n ∧ n ≤ 8 ∧ f + n ≤ 8)
set_option maxHeartbeats 2000000 in
theorem places_any (f n : Int) (w : World) : Calls Tryz.prog 83 #[.int .i64 f, .int .i64 n] w fun e w' => e = .returned (.bool (placesB f n)) ∧ w = w' := by
  by_cases c0 : 0 ≤ f
  rotate_left
  · have HN : Hid (placesB f n = false) := Lib.hid (decide_eq_false fun h => c0 (by omega))
    have d0 : decide ((0 : Int) ≤ f) = false := decide_eq_false c0
    clear c0
    go_enter Tryz.func83, Tryz.ntmps83
    go_wp2_with fail
    go_ret
    exact ⟨by rw [HN.out]; rfl, rfl⟩
  have d0 : decide ((0 : Int) ≤ f) = true := decide_eq_true c0
  by_cases c1 : f < 8
  rotate_left
  · have HN : Hid (placesB f n = false) := Lib.hid (decide_eq_false fun h => c1 (by omega))
    have d1 : decide (f < 8) = false := decide_eq_false c1
    clear c0 c1
    go_enter Tryz.func83, Tryz.ntmps83
    go_wp2_with fail
    go_ret
    exact ⟨by rw [HN.out]; rfl, rfl⟩
  have d1 : decide (f < 8) = true := decide_eq_true c1
  by_cases c2 : 1 ≤ n
  rotate_left
  · have HN : Hid (placesB f n = false) := Lib.hid (decide_eq_false fun h => c2 (by omega))
    have d2 : decide ((1 : Int) ≤ n) = false := decide_eq_false c2
    clear c0 c1 c2
    go_enter Tryz.func83, Tryz.ntmps83
    go_wp2_with fail
    go_ret
    exact ⟨by rw [HN.out]; rfl, rfl⟩
  have d2 : decide ((1 : Int) ≤ n) = true := decide_eq_true c2
  by_cases c3 : n ≤ 8
  rotate_left
  · have HN : Hid (placesB f n = false) := Lib.hid (decide_eq_false fun h => c3 (by omega))
    have d3 : decide (n ≤ 8) = false := decide_eq_false c3
    clear c0 c1 c2 c3
    go_enter Tryz.func83, Tryz.ntmps83
    go_wp2_with fail
    go_ret
    exact ⟨by rw [HN.out]; rfl, rfl⟩
  have d3 : decide (n ≤ 8) = true := decide_eq_true c3
  by_cases c4 : f + n ≤ 8
  rotate_left
  · have HN : Hid (placesB f n = false) := Lib.hid (decide_eq_false fun h => c4 (by omega))
    have d4 : decide (f + n ≤ 8) = false := decide_eq_false c4
    clear c4
    go_enter Tryz.func83, Tryz.ntmps83
    go_wp2_with fail
    go_ret
    exact ⟨by rw [HN.out]; rfl, rfl⟩
  have d4 : decide (f + n ≤ 8) = true := decide_eq_true c4
  have HN : Hid (placesB f n = true) := Lib.hid (decide_eq_true ⟨c0, c1, c2, c3, c4⟩)
  go_enter Tryz.func83, Tryz.ntmps83
  go_wp2_with fail
  go_ret
  exact ⟨by rw [HN.out]; rfl, rfl⟩
/-! Whether an agent knows whether a formula holds. -/
def whF (a : Int) (f : List Nd) : List Nd := ccOr (ccKnow a f) (ccKnow a (ccNot f))
def whE (a : Int) (f : List Nd) : Int := if a < 0 ∨ 4 ≤ a then 2 else if whF a f = [] then 3 else 0
def whG (a : Int) (f : List Nd) : List Nd := if whE a f = 0 then whF a f else []
set_option maxHeartbeats 4000000 in
theorem whether_any (a : Int) (fa : Option Addr) (fc : Nat) (f : List Nd) (w : World) (hf : RN w fa f) :
    Calls Tryz.prog 30 #[.int .i64 a, .slice fa f.length fc] w fun e w' => RetNFe (whG a f) (whE a f) e w w' := by
  by_cases c0 : a < 0
  · have d0 : decide (a < 0) = true := decide_eq_true c0
    have HN : Hid (whE a f = 2) := Lib.hid (if_pos (.inl c0))
    have HG : Hid (whG a f = []) := Lib.hid (if_neg (by rw [HN.out]; decide))
    clear c0
    go_enter Tryz.func30, Tryz.ntmps30
    go_wp2_with fail
    go_ret2
    rw [HN.out, HG.out]
    exact ⟨none, 0, rfl, RN.nil _ _, (fun _ _ h => by cases h), Ext.refl _⟩
  have d0 : decide (a < 0) = false := decide_eq_false c0
  by_cases c1 : 4 ≤ a
  · have d1 : decide ((4 : Int) ≤ a) = true := decide_eq_true c1
    have HN : Hid (whE a f = 2) := Lib.hid (if_pos (.inr c1))
    have HG : Hid (whG a f = []) := Lib.hid (if_neg (by rw [HN.out]; decide))
    clear c0 c1
    go_enter Tryz.func30, Tryz.ntmps30
    go_wp2_with fail
    go_ret2
    rw [HN.out, HG.out]
    exact ⟨none, 0, rfl, RN.nil _ _, (fun _ _ h => by cases h), Ext.refl _⟩
  have d1 : decide ((4 : Int) ≤ a) = false := decide_eq_false c1
  have hE : whE a f = if whF a f = [] then 3 else 0 := if_neg (by omega)
  have HF := Lib.hid hf
  have HE := Lib.hid hE
  have HW : Hid (whF a f = fB ⟨6, 0, 0, 0, 0, 0⟩ [fB ⟨9, a, 0, 0, 0, 0⟩ [f], fB ⟨9, a, 0, 0, 0, 0⟩ [fB ⟨4, 0, 0, 0, 0, 0⟩ [f]]]) := Lib.hid rfl
  clear c0 c1 hf hE
  go_enter Tryz.func30, Tryz.ntmps30
  go_wp2_with fail
  refine (cKnow_any a fa fc f _ HF.out).mono ?_
  rintro _ w1 ⟨a1, c1, rfl, h1, hE1⟩
  dsimp only
  go_wp2_with fail
  refine (cNot_any fa fc f _ (HF.out.ext hE1)).mono ?_
  rintro _ w2 ⟨a2, c2, rfl, h2, hE2⟩
  dsimp only
  go_wp2_with fail
  refine (cKnow_any a a2 c2 _ _ h2).mono ?_
  rintro _ w3 ⟨a3, c3, rfl, h3, hE3⟩
  dsimp only
  go_wp2_with fail
  refine (cOr_freshZ a1 c1 _ a3 c3 _ _ (h1.ext (hE2.trans hE3)) h3).mono ?_
  rintro _ w4 ⟨a4, c4, rfl, h4, hf4, hE4⟩
  rw [← HW.out] at h4 ⊢
  have HX : Hid (Ext w w4) := Lib.hid (hE1.trans (hE2.trans (hE3.trans hE4)))
  have HFR : Hid (Fresh a4 w.heap.size) := Lib.hid (hf4.monoZ (hE1.trans (hE2.trans hE3)).size)
  have HR4 := Lib.hid h4
  have HEQ : Hid (whF a f = [] → whE a f = 3 ∧ whG a f = []) := Lib.hid fun h => by
    have h1 : whE a f = 3 := by rw [HE.out, if_pos h]
    exact ⟨h1, if_neg (by rw [h1]; decide)⟩
  have HNE : Hid (whF a f ≠ [] → whE a f = 0 ∧ whG a f = whF a f) := Lib.hid fun h => by
    have h1 : whE a f = 0 := by rw [HE.out, if_neg h]
    exact ⟨h1, if_pos h1⟩
  clear h1 h2 h3 h4 hf4 hE1 hE2 hE3 hE4 HE HW
  generalize whF a f = W at *
  have hwl := HR4.out.len
  dsimp only
  by_cases hW : W = []
  · obtain ⟨e1, e2⟩ := HEQ.out hW
    have HE1 := Lib.hid e1
    have HE2 := Lib.hid e2
    have hq : ((W.length : Int) == 0) = true := by rw [hW]; rfl
    clear hW e1 e2
    go_wp2_with fail
    go_ret2
    rw [HE1.out, HE2.out]
    exact ⟨none, 0, rfl, RN.nil _ _, (fun _ _ h => by cases h), HX.out⟩
  · obtain ⟨e1, e2⟩ := HNE.out hW
    have HE1 := Lib.hid e1
    have HE2 := Lib.hid e2
    have hq : ((W.length : Int) == 0) = false := by
      have h : W.length ≠ 0 := fun h => hW (List.eq_nil_of_length_eq_zero h)
      rw [beq_eq_false_iff_ne]; omega
    clear hW e1 e2
    go_wp2_with fail
    go_ret2
    rw [HE1.out, HE2.out]
    exact ⟨a4, c4, rfl, HR4.out, HFR.out, HX.out⟩
end Wt

/- Walks: formula.All; puzzles.Silence, Learned, Value (printed by gen_zg.py). -/
namespace Wt
open Go Go.RowKit Go.Maps Go.Proofs Fm

set_option maxHeartbeats 1000000 in
theorem cAll_any (oa : Option Addr) (oc : Nat) (L : List (List Nd)) (w : World) (hr : RNN w oa L) (h0 : 0 < L.length) (hoc : L.length ≤ oc) (hc : fCheck (nth L 0) = 0) :
    Calls Tryz.prog 80 #[.slice oa L.length oc] w fun e w' => RetN (allTo L L.length) e w w' := by
  have HR := Lib.hid hr
  have HC := Lib.hid hc
  clear hr hc
  go_enter Tryz.func80, Tryz.ntmps80
  go_wp2_with fail
  refine (cTrue_any _).mono ?_
  rintro _ w1 ⟨a1, c1, rfl, h1, hE1⟩
  dsimp only
  go_wp2_with fail
  refine (joinAnd_any oa oc L a1 c1 _ w1 (HR.out.ext hE1) h0 hoc HC.out).mono ?_
  rintro _ w2 ⟨a2, c2, rfl, h2, hE2⟩
  dsimp only
  go_wp2_with fail
  go_ret
  exact ⟨a2, c2, rfl, h2, hE1.trans hE2⟩
/-! What the lists hold. -/
theorem wh_tab : ∀ a : _root_.Fin 4, ∀ j : _root_.Fin 8, whF ((a.val : Nat) : Int) (ccFact ((j.val : Nat) : Int)) ≠ [] ∧ fCheck (whF ((a.val : Nat) : Int) (ccFact ((j.val : Nat) : Int))) = 0 ∧ fCheck (ccNot (whF ((a.val : Nat) : Int) (ccFact ((j.val : Nat) : Int)))) = 0 := by decide +kernel
theorem fa_tab : ∀ j : _root_.Fin 8, fCheck (ccFact ((j.val : Nat) : Int)) = 0 ∧ fCheck (ccNot (ccFact ((j.val : Nat) : Int))) = 0 := by decide +kernel
theorem wh_tab' {a j : Nat} (ha : a < 4) (hj : j < 8) : whF (a : Int) (ccFact (j : Int)) ≠ [] ∧ fCheck (whF (a : Int) (ccFact (j : Int))) = 0 ∧ fCheck (ccNot (whF (a : Int) (ccFact (j : Int)))) = 0 := wh_tab ⟨a, ha⟩ ⟨j, hj⟩
theorem wh_ok {a j : Nat} (ha : a < 4) (hj : j < 8) : whE (a : Int) (ccFact (j : Int)) = 0 ∧ whG (a : Int) (ccFact (j : Int)) = whF (a : Int) (ccFact (j : Int)) := by
  have h := (wh_tab ⟨a, ha⟩ ⟨j, hj⟩).1
  have h1 : whE (a : Int) (ccFact (j : Int)) = 0 := by
    unfold whE
    rw [if_neg (by omega), if_neg h]
  exact ⟨h1, if_pos h1⟩
def silL (n : Nat) : List (List Nd) := (List.range n).map fun i : Nat => ccNot (whF (i : Int) (ccFact (i : Int)))
theorem silL_len (n : Nat) : (silL n).length = n := by simp [silL]
theorem silL_step (n : Nat) : silL (n + 1) = silL n ++ [ccNot (whF (n : Int) (ccFact (n : Int)))] := by simp [silL, List.range_succ]
def leaL (a f n : Nat) : List (List Nd) := (List.range n).map fun i : Nat => whF (a : Int) (ccFact ((f + i : Nat) : Int))
theorem leaL_len (a f n : Nat) : (leaL a f n).length = n := by simp [leaL]
theorem leaL_step (a f n : Nat) : leaL a f (n + 1) = leaL a f n ++ [whF (a : Int) (ccFact ((f + n : Nat) : Int))] := by simp [leaL, List.range_succ]
def valE (f v i : Nat) : List Nd := if v.testBit i then ccFact ((f + i : Nat) : Int) else ccNot (ccFact ((f + i : Nat) : Int))
def valL (f v n : Nat) : List (List Nd) := (List.range n).map (valE f v)
theorem valL_len (f v n : Nat) : (valL f v n).length = n := by simp [valL]
theorem valL_step (f v n : Nat) : valL f v (n + 1) = valL f v n ++ [valE f v n] := by simp [valL, List.range_succ]
theorem sil_head {n : Nat} (h : 1 ≤ n) : fCheck (nth (silL n) 0) = 0 := by
  have e : nth (silL n) 0 = (fun i : Nat => ccNot (whF (i : Int) (ccFact (i : Int)))) 0 := nth_mapX _ (by omega)
  rw [e]
  exact (wh_tab' (a := 0) (j := 0) (by omega) (by omega)).2.2
theorem lea_head {a f n : Nat} (h : 1 ≤ n) (ha : a < 4) (hf : f < 8) : fCheck (nth (leaL a f n) 0) = 0 := by
  have e : nth (leaL a f n) 0 = (fun i : Nat => whF (a : Int) (ccFact ((f + i : Nat) : Int))) 0 := nth_mapX _ (by omega)
  rw [e]
  exact (wh_tab' (a := a) (j := f + 0) ha (by omega)).2.1
def RetNzZ (l : List Nd) (e : Ending) (w w' : World) : Prop := ∃ a c, e = .returned (.tuple #[.slice a l.length c, .int .i64 0]) ∧ RN w' a l ∧ Ext w w'
set_option maxRecDepth 20000 in
set_option maxHeartbeats 8000000 in
theorem silence_any (n : Nat) (hn : 1 ≤ n ∧ n ≤ 4) (w : World) :
    Calls Tryz.prog 29 #[.int .i64 (n : Int)] w fun e w' => RetNzZ (allTo (silL n) (silL n).length) e w w' := by
  have hn4 := hn.2
  have hn1 := hn.1
  have d0 : decide ((n : Int) < 1) = false := decide_eq_false (by omega)
  have d1 : decide ((4 : Int) < (n : Int)) = false := decide_eq_false (by omega)
  obtain ⟨i0, hi1, hz0, hz1, hz2⟩ := info_parts sn_infoZ
  go_enter Tryz.func29, Tryz.ntmps29
  go_wp2
  go_loopw [4, 15] (fun v ix wr => ∃ k : Nat, k ≤ n ∧ ix = .int .i64 (k : Int) ∧ Hid (FKV w (silL k) v wr)) (fun _ ix _ => n - (RowKit.intOf ix).toNat)
  case atStart => exact ⟨0, Nat.zero_le _, rfl, Lib.hid ⟨_, FK.nil w⟩⟩
  case round =>
    obtain ⟨k, hk, rfl, HFZ⟩ := hrel
    by_cases hlk : k < n
    · obtain ⟨svs, hsk⟩ := HFZ.out
      have hsz0 : w.heap.size ≤ wr.heap.size := hsk.e.size
      have hlen : (silL k).length = k := silL_len _
      have hsl : svs.length ≤ 8 := by rw [hsk.len, hlen]; omega
      have HPA : Hid (∀ W2, Ext wr W2 → FK w (silL k) svs u4 W2) := Lib.hid fun W2 e => hsk.ext' e
      have HGB : Hid (∀ q, u4.ownBlock = some q → q < wr.heap.size) := Lib.hid fun q hq => (hsk.own.lt q hq).2
      have HSTEP := Lib.hid (silL_step k)
      have HONE : Hid (∀ (a : Option Addr) (x y : Nat), ∀ u ∈ [Value.slice a x y], u.oneCell' = true) := Lib.hid fun a x y u hu => by
        rw [List.mem_singleton.1 hu]; rfl
      have HWE := Lib.hid (wh_ok (show k < 4 by omega) (show k < 8 by omega)).1
      have HWG := Lib.hid (wh_ok (show k < 4 by omega) (show k < 8 by omega)).2
      have HWH : Hid (∀ W a c, RN W a (ccFact (k : Int)) → Calls Tryz.prog 30 #[.int .i64 (k : Int), .slice a (ccFact (k : Int)).length c] W fun e w' => RetNFe (whF (k : Int) (ccFact (k : Int))) 0 e W w') := Lib.hid fun W a c h => by
        have h1 := whether_any (k : Int) a c (ccFact (k : Int)) W h
        rw [HWE.out, HWG.out] at h1; exact h1
      have HNA : Hid (ccNot (whF (k : Int) (ccFact (k : Int))) = fB ⟨4, 0, 0, 0, 0, 0⟩ [whF (k : Int) (ccFact (k : Int))]) := Lib.hid rfl
      have HNO : Hid (∀ W a c, RN W a (whF (k : Int) (ccFact (k : Int))) → Calls Tryz.prog 32 #[.slice a (whF (k : Int) (ccFact (k : Int))).length c] W fun e w' => RetNF (ccNot (whF (k : Int) (ccFact (k : Int)))) e W w') := Lib.hid fun W a c h => cNot_freshZ a c _ W h
      generalize ccNot (whF (k : Int) (ccFact (k : Int))) = NA at *
      generalize whF (k : Int) (ccFact (k : Int)) = WF at *
      have HFA : Hid (∀ W, Calls Tryz.prog 31 #[.int .i64 (k : Int)] W fun e w' => RetN (ccFact (k : Int)) e W w') := Lib.hid fun W => cFact_any _ W
      generalize ccFact (k : Int) = FA at *
      generalize silL k = L at *
      clear hsk hlen
      go_wp2_with fail
      refine (HFA.out _).mono ?_
      rintro _ w3 ⟨a3, c3, rfl, h3, hE3⟩
      dsimp only
      go_wp2_with fail
      refine (HWH.out _ _ _ h3).mono ?_
      rintro _ w4 ⟨a4, c4, rfl, h4, -, hE4⟩
      dsimp only
      go_wp2_with fail
      refine (HNO.out _ _ _ h4).mono ?_
      rintro _ w6 ⟨a6, c6, rfl, h6, hf6, hE6⟩
      dsimp only
      have hE36 : Ext wr w6 := hE3.trans (hE4.trans hE6)
      have HST : Hid (∀ o, StayN u4.ownBlock (w6.alloc o) a6 NA) := Lib.hid fun o => (StayN.new HGB.out h6 (hf6.monoZ (hE3.trans hE4).size)).ext ((Ext.refl w6).alloc o)
      have HE36 := Lib.hid hE36
      have hsz6 : w.heap.size ≤ w6.heap.size := Nat.le_trans hsz0 hE36.size
      clear h3 h4 h6 hf6 hE3 hE4 hE6 hE36
      go_wp2_with (at_builtin; refine wpList_append_lies _ rfl _ _ 42 rfl w.heap.size 44 i0 _ 1 24 Tryz.underlying42 hi1 hz0 hz1 hz2 rfl (by decide) u4 svs.length svs rfl ((HPA.out _ (HE36.out.alloc _)).own) ⟨w6.heap.size, 0, none⟩ 1 1 [.slice a6 NA.length c6] rfl rfl (cell_one_new _ _ _) (HONE.out _ _ _) (by decide) (by unfold maxLen; omega) (by omega) (Nat.le_trans hsz6 (by simp)) _ rfl ?_; intro gx cap W1 hown hgrow hat hlt2; have hpush := (HPA.out _ (HE36.out.alloc _)).push (l := NA) (c := c6) (HST.out _) hown hgrow hat; have HPU := Lib.hid hpush; clear hpush hown hgrow hat)
      go_roundw
      case rel => exact ⟨k + 1, hlk, by go_num, Lib.hid ⟨_, by rw [HSTEP.out]; exact HPU.out⟩⟩
      case measure => simp [RowKit.intOf]; omega
    · obtain rfl : k = n := by omega
      obtain ⟨svs, hsk⟩ := HFZ.out
      have hlen : (silL k).length = k := silL_len _
      obtain ⟨sa, sc, hv, hrn, hsc⟩ := hsk.rnnc (by omega) (by omega)
      have HSE := Lib.hid hsk.e
      have HAL := Lib.hid (cAll_any sa sc (silL k) wr hrn (by omega) hsc (sil_head (by omega)))
      obtain ⟨L, hLe⟩ : ∃ L, L = silL k := ⟨_, rfl⟩
      rw [← hLe] at HAL hv
      have HLE := Lib.hid hLe
      clear hLe
      subst hv
      clear hsk hrn hlen hsc
      go_wp2_with fail
      refine HAL.out.mono ?_
      rintro _ w2 ⟨a2, c2, rfl, h2, hE2⟩
      dsimp only
      go_wp2_with fail
      go_ret2
      rw [← HLE.out]
      exact ⟨a2, c2, rfl, h2, HSE.out.trans hE2⟩
set_option maxRecDepth 20000 in
set_option maxHeartbeats 8000000 in
theorem learned_any (a f n : Nat) (ha : a < 4) (hn : 1 ≤ n) (hf : f + n ≤ 8) (w : World) :
    Calls Tryz.prog 33 #[.int .i64 (a : Int), .int .i64 (f : Int), .int .i64 (n : Int)] w fun e w' => RetNzZ (allTo (leaL a f n) (leaL a f n).length) e w w' := by
  have HPL : Hid (placesB (f : Int) (n : Int) = true) := Lib.hid (decide_eq_true (by omega))
  have d0 : decide ((a : Int) < 0) = false := decide_eq_false (by omega)
  have d1 : decide ((4 : Int) ≤ (a : Int)) = false := decide_eq_false (by omega)
  obtain ⟨i0, hi1, hz0, hz1, hz2⟩ := info_parts sn_infoZ
  go_enter Tryz.func33, Tryz.ntmps33
  go_wp2_with fail
  refine (places_any _ _ _).mono ?_
  rintro _ _ ⟨rfl, rfl⟩
  rw [HPL.out]
  dsimp only
  go_wp2_with fail
  go_loopw [8, 25] (fun v ix wr => ∃ k : Nat, k ≤ n ∧ ix = .int .i64 (k : Int) ∧ Hid (FKV w (leaL a f k) v wr)) (fun _ ix _ => n - (RowKit.intOf ix).toNat)
  case atStart => exact ⟨0, Nat.zero_le _, rfl, Lib.hid ⟨_, FK.nil w⟩⟩
  case round =>
    obtain ⟨k, hk, rfl, HFZ⟩ := hrel
    by_cases hlk : k < n
    · obtain ⟨svs, hsk⟩ := HFZ.out
      have hsz0 : w.heap.size ≤ wr.heap.size := hsk.e.size
      have hlen : (leaL a f k).length = k := leaL_len _ _ _
      have hsl : svs.length ≤ 8 := by rw [hsk.len, hlen]; omega
      have HPA : Hid (∀ W2, Ext wr W2 → FK w (leaL a f k) svs u8 W2) := Lib.hid fun W2 e => hsk.ext' e
      have HGB : Hid (∀ q, u8.ownBlock = some q → q < wr.heap.size) := Lib.hid fun q hq => (hsk.own.lt q hq).2
      have HSTEP := Lib.hid (leaL_step a f k)
      have HONE : Hid (∀ (a : Option Addr) (x y : Nat), ∀ u ∈ [Value.slice a x y], u.oneCell' = true) := Lib.hid fun a x y u hu => by
        rw [List.mem_singleton.1 hu]; rfl
      have HWE := Lib.hid (wh_ok (show a < 4 by omega) (show f + k < 8 by omega)).1
      have HWG := Lib.hid (wh_ok (show a < 4 by omega) (show f + k < 8 by omega)).2
      have HWH : Hid (∀ W p c, RN W p (ccFact ((f + k : Nat) : Int)) → Calls Tryz.prog 30 #[.int .i64 (a : Int), .slice p (ccFact ((f + k : Nat) : Int)).length c] W fun e w' => RetNFe (whF (a : Int) (ccFact ((f + k : Nat) : Int))) 0 e W w') := Lib.hid fun W p c h => by
        have h1 := whether_any (a : Int) p c (ccFact ((f + k : Nat) : Int)) W h
        rw [HWE.out, HWG.out] at h1; exact h1
      obtain ⟨NA, hNA⟩ : ∃ NA, NA = whF (a : Int) (ccFact ((f + k : Nat) : Int)) := ⟨_, rfl⟩
      rw [← hNA] at HSTEP
      rw [← hNA] at HWH
      obtain ⟨q, hq⟩ : ∃ q, q = f + k := ⟨_, rfl⟩
      have hqI : (f : Int) + (k : Int) = (q : Int) := by omega
      have HFA : Hid (∀ W, Calls Tryz.prog 31 #[.int .i64 (q : Int)] W fun e w' => RetN (ccFact ((f + k : Nat) : Int)) e W w') := Lib.hid fun W => by rw [← hq]; exact cFact_any _ W
      generalize ccFact ((f + k : Nat) : Int) = FA at *
      generalize leaL a f k = L at *
      clear hsk hlen hNA hq HWE HWG
      go_wp2_with fail
      refine (HFA.out _).mono ?_
      rintro _ w3 ⟨a3, c3, rfl, h3, hE3⟩
      dsimp only
      go_wp2_with fail
      refine (HWH.out _ _ _ h3).mono ?_
      rintro _ w6 ⟨a6, c6, rfl, h6, hf6, hE6⟩
      dsimp only
      have hE36 : Ext wr w6 := hE3.trans hE6
      have HST : Hid (∀ o, StayN u8.ownBlock (w6.alloc o) a6 NA) := Lib.hid fun o => (StayN.new HGB.out h6 (hf6.monoZ hE3.size)).ext ((Ext.refl w6).alloc o)
      have HE36 := Lib.hid hE36
      have hsz6 : w.heap.size ≤ w6.heap.size := Nat.le_trans hsz0 hE36.size
      clear h3 h6 hf6 hE3 hE6 hE36
      go_wp2_with (at_builtin; refine wpList_append_lies _ rfl _ _ 42 rfl w.heap.size 44 i0 _ 1 24 Tryz.underlying42 hi1 hz0 hz1 hz2 rfl (by decide) u8 svs.length svs rfl ((HPA.out _ (HE36.out.alloc _)).own) ⟨w6.heap.size, 0, none⟩ 1 1 [.slice a6 NA.length c6] rfl rfl (cell_one_new _ _ _) (HONE.out _ _ _) (by decide) (by unfold maxLen; omega) (by omega) (Nat.le_trans hsz6 (by simp)) _ rfl ?_; intro gx cap W1 hown hgrow hat hlt2; have hpush := (HPA.out _ (HE36.out.alloc _)).push (l := NA) (c := c6) (HST.out _) hown hgrow hat; have HPU := Lib.hid hpush; clear hpush hown hgrow hat)
      go_roundw
      case rel => exact ⟨k + 1, hlk, by go_num, Lib.hid ⟨_, by rw [HSTEP.out]; exact HPU.out⟩⟩
      case measure => simp [RowKit.intOf]; omega
    · obtain rfl : k = n := by omega
      obtain ⟨svs, hsk⟩ := HFZ.out
      have hlen : (leaL a f k).length = k := leaL_len _ _ _
      obtain ⟨sa, sc, hv, hrn, hsc⟩ := hsk.rnnc (by omega) (by omega)
      have HSE := Lib.hid hsk.e
      have HAL := Lib.hid (cAll_any sa sc (leaL a f k) wr hrn (by omega) hsc (lea_head (by omega) ha (by omega)))
      obtain ⟨L, hLe⟩ : ∃ L, L = leaL a f k := ⟨_, rfl⟩
      rw [← hLe] at HAL hv
      have HLE := Lib.hid hLe
      clear hLe
      subst hv
      clear hsk hrn hlen hsc
      go_wp2_with fail
      refine HAL.out.mono ?_
      rintro _ w2 ⟨a2, c2, rfl, h2, hE2⟩
      dsimp only
      go_wp2_with fail
      go_ret2
      rw [← HLE.out]
      exact ⟨a2, c2, rfl, h2, HSE.out.trans hE2⟩
end Wt
