/- Walks: secrets.votes, Votes. -/
import Derived.Test.YtflnfcmbalhpnaaDoorM4Bk
import Derived.Test.YtflnfcmbalhpnaaDoorM4Bl
import Derived.Test.YtflnfcmbalhpnaaDoorM4Bc
import Derived.Deep.RegionHeld3
import Derived.Deep.CutRange
namespace Wt
open Go Go.RowKit Go.Maps Go.Proofs Fm

theorem results_cell_w {fn : Func} {p u : Tmp} {ty : TypeId} (h : fn.results = #[.cell p ty, .tmp u]) (tmps : Array Value) (P : Program) (w : World) :
    (results fn tmps).run P w = ((asAddr (tmps.getD p undef)).run P w).andThen fun a w₁ => ((loadVar ty a).run P w₁).andThen fun y w₂ => .ok (.tuple #[y, tmps.getD u undef]) w₂ := by
  simp only [results, h]
  simp [Sem.run_bind, Result.andThen]
/-- A model and one thing more. -/
def RetX (A : Mo) (x : Value) (e : Ending) (w w' : World) : Prop := ∃ va ra vc rc, e = .returned (.tuple #[.agg #[.int .i64 A.worlds, .slice va A.val.length vc, .slice ra A.rel.length rc], x]) ∧ (∀ w'', Agree w.heap.size w' w'' → RM w'' va ra A) ∧ Ext w w'
theorem len_fact : ∀ k : _root_.Fin 8, (ccFact ((k.val : Nat) : Int)).length = 1 := by decide +kernel
def seenTo (k : Nat) : List (List (List Nd)) := (List.range k).map fun i : Nat => [ccFact (i : Int)]
theorem seenTo_len (k : Nat) : (seenTo k).length = k := by simp [seenTo]
theorem seenTo_step (k : Nat) : seenTo (k + 1) = seenTo k ++ [[ccFact (k : Int)]] := by simp [seenTo, List.range_succ]
/-- A result is stored into a box that lay there before, and a variable made. -/
theorem stored3 {w w5 : World} {b B : Nat} {p q r : Value} (HO : OutAt w5 b p q r) (hE : Ext w w5) (hb : w.heap.size ≤ b) (hB : b < B) (x y z : Value) : Ext w (((w5.setCell ⟨b, 0, none⟩ x).setCell ⟨b, 1, none⟩ y).setCell ⟨b, 2, none⟩ z) ∧ OutAt (((w5.setCell ⟨b, 0, none⟩ x).setCell ⟨b, 1, none⟩ y).setCell ⟨b, 2, none⟩ z) b x y z ∧ Agree B w5 (((w5.setCell ⟨b, 0, none⟩ x).setCell ⟨b, 1, none⟩ y).setCell ⟨b, 2, none⟩ z) ∧ w5.heap.size ≤ (((w5.setCell ⟨b, 0, none⟩ x).setCell ⟨b, 1, none⟩ y).setCell ⟨b, 2, none⟩ z).heap.size :=
  ⟨hE.set3 hb x y z, ((HO.set0 x).set1 y).set2 z, Agree.set3 w5 hB x y z, by rw [size_set3]; exact Nat.le_refl _⟩
theorem stored3a {w w5 : World} {b B : Nat} {p q r : Value} (HO : OutAt w5 b p q r) (hE : Ext w w5) (hb : w.heap.size ≤ b) (hB : b < B) (x y z : Value) (o : Obj) : Ext w ((((w5.setCell ⟨b, 0, none⟩ x).setCell ⟨b, 1, none⟩ y).setCell ⟨b, 2, none⟩ z).alloc o) ∧ OutAt ((((w5.setCell ⟨b, 0, none⟩ x).setCell ⟨b, 1, none⟩ y).setCell ⟨b, 2, none⟩ z).alloc o) b x y z ∧ Agree B w5 ((((w5.setCell ⟨b, 0, none⟩ x).setCell ⟨b, 1, none⟩ y).setCell ⟨b, 2, none⟩ z).alloc o) ∧ w5.heap.size ≤ ((((w5.setCell ⟨b, 0, none⟩ x).setCell ⟨b, 1, none⟩ y).setCell ⟨b, 2, none⟩ z).alloc o).heap.size := by
  obtain ⟨h1, h2, h3, h4⟩ := stored3 HO hE hb hB x y z
  exact ⟨h1.alloc o, h2.ext ((Ext.refl _).alloc o), h3.trans (Agree.ofExt ((Ext.refl _).alloc o)) h4, Nat.le_trans h4 (Ext.size ((Ext.refl _).alloc o))⟩
theorem cell_one_new1 (w : World) (o : Obj) (v : Value) (T : Nat) : ∀ j u, [v][j]? = some u → ((w.alloc o).alloc (.cells #[v] T)).cell? ((⟨w.heap.size + 1, 0, none⟩ : Addr).add j) = some u := by
  have h := cell_one_new (w.alloc o) v T
  rw [show (w.alloc o).heap.size = w.heap.size + 1 by simp] at h
  exact h
theorem Stay.one1 {g : Option Nat} {wr w2 : World} {fa : Option Addr} {fc : Nat} {F : List Nd} (hg : ∀ q, g = some q → q < wr.heap.size) (he : Ext wr w2) (hr : RN w2 fa F) (hf : Fresh fa wr.heap.size) (h0 : 0 < F.length) (T : Nat) (o : Obj) : Stay g ((w2.alloc (.cells #[.slice fa F.length fc] T)).alloc o) (some ⟨w2.heap.size, 0, none⟩) [F] :=
  Stay.list hg he.size (by simp; omega) (by simp) fun k hk => by
    obtain rfl : k = 0 := by simp at hk; omega
    exact ⟨fa, fc, by simp [nth], hr.ext (((Ext.refl w2).alloc _).alloc _), hf, h0⟩
set_option maxRecDepth 20000 in
set_option maxHeartbeats 4000000 in
theorem votes_any (n : Nat) (hn : 2 ≤ n ∧ n ≤ 4) (w : World) :
    Calls Tryd.prog 18 #[.int .i64 (n : Int)] w fun e w' => RetX (votesM n) (.bool true) e w w' := by
  have hE0 : Ext w (w.alloc (.cells #[.int .i64 0, .slice none 0 0, .slice none 0 0] 28)) := (Ext.refl w).alloc _
  have hO0 := OutAt.new w (.int .i64 0) (.slice none 0 0) (.slice none 0 0) 28
  have hb1 : btw (n : Int) 2 4 = true := btw_yes (by omega)
  have HOK : Hid (obErr (n : Int) ccTrue (seenTo n) = 0) := Lib.hid (votes_ok hn)
  have HVM : Hid (votesM n = obM (n : Int) ccTrue (seenTo n)) := Lib.hid rfl
  have HE0 := Lib.hid hE0
  have HO0 := Lib.hid hO0
  have HSL := Lib.hid seenTo_len
  have HSS := Lib.hid seenTo_step
  have hn4 := hn.2
  obtain ⟨i0, hi1, hz0, hz1, hz2⟩ := info_parts ssn_info
  go_enter Tryd.func18, Tryd.ntmps18
  generalize hW0 : w.alloc (.cells #[.int .i64 0, .slice none 0 0, .slice none 0 0] 28) = W0 at *
  have hlt0 : w.heap.size < W0.heap.size := hO0.lt
  have HLT0 := Lib.hid hlt0
  clear hE0 hO0
  go_wp2_with (go_at_call 19; refine (between_any _ _ _ _).mono ?_; rintro _ _ ⟨rfl, rfl⟩)
  go_loopw [4, 14] (fun v i wr => ∃ k : Nat, k ≤ n ∧ i = .int .i64 (k : Int) ∧ Hid (SKV W0 (seenTo k) v wr)) (fun _ i _ => n - (intOf i).toNat)
  case atStart => exact ⟨0, Nat.zero_le _, rfl, Lib.hid ⟨_, SK.nil W0⟩⟩
  case round =>
    obtain ⟨k, hk, rfl, HSK⟩ := hrel
    obtain ⟨svs, hsk⟩ := HSK.out
    by_cases hlt : k < n
    · have hl1 : (ccFact (k : Int)).length = 1 := len_fact ⟨k, by omega⟩
      have hsz0 : W0.heap.size ≤ wr.heap.size := hsk.e.size
      have hsl : svs.length = k := by rw [hsk.len, HSL.out]
      have HF := Lib.hid (cFact_fresh (k : Int) wr)
      have HPA : Hid (∀ W2, Ext wr W2 → SK W0 (seenTo k) svs u4 W2) := Lib.hid fun W2 e => hsk.ext' e
      have HGB : Hid (∀ q, u4.ownBlock = some q → q < wr.heap.size) := Lib.hid fun q hq => (hsk.own.lt q hq).2
      have HSTEP := Lib.hid (HSS.out k)
      have HL1 := Lib.hid hl1
      have HONE : Hid (∀ (a : Option Addr) (x y : Nat), ∀ u ∈ [Value.slice a x y], u.oneCell' = true) := Lib.hid fun a x y u hu => by
        rw [List.mem_singleton.1 hu]; rfl
      have HFE : Hid (fB ⟨3, (k : Int), 0, 0, 0, 0⟩ [] = ccFact (k : Int)) := Lib.hid rfl
      rw [HFE.out] at HF
      generalize ccFact (k : Int) = F at *
      generalize seenTo k = L at *
      have HF0 : Hid (0 < F.length) := Lib.hid (by rw [hl1]; decide)
      clear hsk hl1
      go_wp2_with (first | (go_at_call 17; refine (HF.out).mono ?_; rintro _ w2 ⟨fa, fc, rfl, hr2, hfr2, hE2⟩; have HPU0 := Lib.hid (fun T o => Stay.one1 (fc := fc) HGB.out hE2 hr2 hfr2 HF0.out T o); have HE2 := Lib.hid hE2; have hsz2 : W0.heap.size ≤ w2.heap.size := Nat.le_trans hsz0 hE2.size; clear hr2 hfr2 hE2) | (at_builtin; refine wpList_append_lies _ rfl _ _ 70 rfl W0.heap.size 71 i0 _ 1 24 Tryd.underlying70 hi1 hz0 hz1 hz2 rfl (by decide) u4 svs.length svs rfl ((HPA.out _ ((HE2.out.alloc _).alloc _)).own) ⟨w2.heap.size + 1, 0, none⟩ 1 1 [.slice (some ⟨w2.heap.size, 0, none⟩) 1 1] rfl rfl (cell_one_new1 _ _ _ _) (HONE.out _ _ _) (by decide) (by unfold maxLen; omega) (by omega) (Nat.le_trans hsz2 (by simp; omega)) _ rfl ?_; intro gx cap W1 hown hgrow hat hlt2; have hpush := (HPA.out _ ((HE2.out.alloc _).alloc _)).push (l := [F]) (c := 1) (HPU0.out _ _) hown hgrow hat; have HPU := Lib.hid hpush; clear hpush hown hgrow hat))
      go_roundw
      case rel => exact ⟨k + 1, hlt, by go_num, Lib.hid ⟨_, by rw [HSTEP.out]; rw [hsl] at HPU; exact HPU.out⟩⟩
      case measure => simp [intOf]; omega
    · obtain rfl : k = n := by omega
      obtain ⟨sa, sc, hv, hrn⟩ := hsk.rnnn (by rw [HSL.out]; omega)
      have HSE := Lib.hid hsk.e
      have HRN := Lib.hid hrn
      have HB := Lib.hid (fun W fa fc (hf : RN W fa ccTrue) (hs : RNNN W sa (seenTo k)) => obuildR_any (k : Int) fa fc ccTrue sa sc (seenTo k) W hf hs)
      rw [HOK.out, ← HVM.out] at HB
      have HSLk := Lib.hid (HSL.out k)
      generalize seenTo k = L at *
      generalize natI (obS (k : Int) ccTrue L) = stl at *
      generalize hvm : votesM k = A at *
      have HVA := Lib.hid hvm
      subst hv
      clear hsk hrn hvm
      have HTR : Hid (∀ w, Calls Tryd.prog 33 #[] w fun e w' => RetN ccTrue e w w') := Lib.hid fun w => cTrue_any w
      generalize ccTrue = TR at *
      have HHO : Hid (∀ w', Ext W0 w' → OutAt w' w.heap.size (.int .i64 0) (.slice none 0 0) (.slice none 0 0)) := Lib.hid fun w' e => HO0.out.ext e
      clear HOK HVM hW0
      go_wp2_with (first | (go_at_call 33; refine (HTR.out _).mono ?_; rintro _ w3 ⟨ta, tc, rfl, hr3, hE3⟩; have HR3 := Lib.hid hr3; have HE3 := Lib.hid hE3; clear hr3 hE3) | (go_at_call 32; refine (HB.out _ ta tc HR3.out (HRN.out.ext HE3.out)).mono ?_; rintro _ w5 ⟨va, ra, la, vc, rc, lc, rfl, hk5, hE5⟩; have HK5 := Lib.hid hk5; have HE5 := Lib.hid hE5; have HO5 := Lib.hid (HHO.out _ (HSE.out.trans (HE3.out.trans hE5))); obtain ⟨r0, r1, r2, rf⟩ := HO5.out; have f0 := rf 0; have f1 := rf 1; have f2 := rf 2; have hl5 := HO5.out.lt; clear hk5 hE5 rf))
      have hs3 := (HE0.out.trans (HSE.out.trans HE3.out)).size
      have hst := stored3a HO5.out ((HE0.out.trans (HSE.out.trans HE3.out)).trans HE5.out) (Nat.le_refl _) (B := w3.heap.size) (Nat.lt_of_lt_of_le HLT0.out (HSE.out.trans HE3.out).size) (.int .i64 A.worlds) (.slice va A.val.length vc) (.slice ra A.rel.length rc) (.cells #[.int .i64 A.worlds, .slice va A.val.length vc, .slice ra A.rel.length rc] 28)
      generalize (((w5.setCell ⟨w.heap.size, 0, none⟩ (.int .i64 A.worlds)).setCell ⟨w.heap.size, 1, none⟩ (.slice va A.val.length vc)).setCell ⟨w.heap.size, 2, none⟩ (.slice ra A.rel.length rc)).alloc (.cells #[.int .i64 A.worlds, .slice va A.val.length vc, .slice ra A.rel.length rc] 28) = W2 at *
      obtain ⟨hEx, ⟨d0, d1, d2, -⟩, hag, hsw⟩ := hst
      refine bodyPost_ret (v := .tuple #[.agg #[.int .i64 A.worlds, .slice va A.val.length vc, .slice ra A.rel.length rc], .bool true]) ?_ rfl ?_
      · rw [results_cell_w rfl]
        go_simp
      · rw [HVA.out]
        exact ⟨va, ra, vc, rc, rfl, fun w'' ha => (HK5.out w'' (agree_up hag ha hs3 hsw)).1, hEx⟩
set_option maxRecDepth 20000 in
set_option maxHeartbeats 4000000 in
theorem votesE_any (n : Nat) (hn : 2 ≤ n ∧ n ≤ 4) (w : World) :
    Calls Tryd.prog 5 #[.int .i64 (n : Int)] w fun e w' => RetX (votesM n) (.int .i64 0) e w w' := by
  have hE0 : Ext w (w.alloc (.cells #[.int .i64 0, .slice none 0 0, .slice none 0 0] 28)) := (Ext.refl w).alloc _
  have HO0 := Lib.hid (OutAt.new w (.int .i64 0) (.slice none 0 0) (.slice none 0 0) 28)
  have HV := Lib.hid (votes_any n hn)
  generalize votesM n = A at *
  have HE0 := Lib.hid hE0
  have hs0 : w.heap.size ≤ (w.alloc (.cells #[.int .i64 0, .slice none 0 0, .slice none 0 0] 28)).heap.size := hE0.size
  clear hE0
  go_enter Tryd.func5, Tryd.ntmps5
  go_wp2_with fail
  generalize w.alloc (.cells #[.int .i64 0, .slice none 0 0, .slice none 0 0] 28) = W0 at *
  refine (HV.out _).mono ?_
  rintro _ w5 ⟨va, ra, vc, rc, rfl, hk5, hE5⟩
  have HK5 := Lib.hid hk5
  have HE5 := Lib.hid hE5
  have HO5 := Lib.hid (HO0.out.ext hE5)
  obtain ⟨r0, r1, r2, rf⟩ := HO5.out
  have f0 := rf 0
  have f1 := rf 1
  have f2 := rf 2
  have hl5 := HO5.out.lt
  have HL0 := Lib.hid HO0.out.lt
  clear hk5 hE5 rf
  dsimp only
  go_wp2_with fail
  have hst := stored3a HO5.out (HE0.out.trans HE5.out) (Nat.le_refl _) (B := W0.heap.size) HL0.out (.int .i64 A.worlds) (.slice va A.val.length vc) (.slice ra A.rel.length rc) (.cells #[.int .i64 A.worlds, .slice va A.val.length vc, .slice ra A.rel.length rc] 28)
  generalize (((w5.setCell ⟨w.heap.size, 0, none⟩ (.int .i64 A.worlds)).setCell ⟨w.heap.size, 1, none⟩ (.slice va A.val.length vc)).setCell ⟨w.heap.size, 2, none⟩ (.slice ra A.rel.length rc)).alloc (.cells #[.int .i64 A.worlds, .slice va A.val.length vc, .slice ra A.rel.length rc] 28) = W2 at *
  obtain ⟨hEx, ⟨d0, d1, d2, -⟩, hag, hsw⟩ := hst
  refine bodyPost_ret (v := .tuple #[.agg #[.int .i64 A.worlds, .slice va A.val.length vc, .slice ra A.rel.length rc], .int .i64 0]) ?_ rfl ?_
  · rw [results_cell_w rfl]
    go_simp
  · exact ⟨va, ra, vc, rc, rfl, fun w'' ha => HK5.out w'' (agree_up hag ha hs0 hsw), hEx⟩
end Wt

/- Walks: knows, give, ask of package secrets (printed by gen_sef.py). -/
namespace Wt
open Go Go.RowKit Go.Maps Go.Proofs Fm

set_option maxRecDepth 20000 in
set_option maxHeartbeats 4000000 in
theorem knows_any (N : Nat) (V : List (BitVec 64)) (R : List (List (BitVec 64))) (va ra : Option Addr) (vc rc : Nat) (x : Nat) (g i : Int) (w : World) (hm : RM w va ra ⟨(N : Int), V, R⟩) :
    Calls Tryd.prog 47 #[.agg #[.int .i64 (N : Int), .slice va V.length vc, .slice ra R.length rc, .int .i64 (x : Int)], .int .i64 g, .int .i64 i] w fun e w' => e = .returned (.bool (knowsW (⟨(N : Int), V, R⟩, (x : Int)) g i)) ∧ Ext w w' := by
  have hE0 : Ext w (w.alloc (.cells #[.int .i64 (N : Int), .slice va V.length vc, .slice ra R.length rc, .int .i64 (x : Int)] 64)) := (Ext.refl w).alloc _
  have HB0 := Lib.hid (PAt.new w (.int .i64 (N : Int)) (.slice va V.length vc) (.slice ra R.length rc) (.int .i64 (x : Int)) 64)
  have HK : Hid (knowsW (⟨(N : Int), V, R⟩, (x : Int)) g i = (atOf ⟨(N : Int), V, R⟩ (x : Int) (ccDist g (ccFact i)) || atOf ⟨(N : Int), V, R⟩ (x : Int) (ccDist g (ccNot (ccFact i))))) := Lib.hid rfl
  have HM := Lib.hid (hm.ext' hE0)
  have HAT := Lib.hid (fun W a c f (h : RM W va ra ⟨(N : Int), V, R⟩) (hf : RN W a f) => at_any ⟨(N : Int), V, R⟩ va ra vc rc (x : Int) a c f W h hf)
  have HFA : Hid (∀ W, Calls Tryd.prog 17 #[.int .i64 i] W fun e w' => RetN (ccFact i) e W w') := Lib.hid fun W => cFact_any i W
  have HD1 : Hid (∀ W a c, RN W a (ccFact i) → Calls Tryd.prog 16 #[.int .i64 g, .slice a (ccFact i).length c] W fun e w' => RetN (ccDist g (ccFact i)) e W w') := Lib.hid fun W a c h => cDist_any g a c (ccFact i) W h
  have HNO : Hid (∀ W a c, RN W a (ccFact i) → Calls Tryd.prog 8 #[.slice a (ccFact i).length c] W fun e w' => RetN (ccNot (ccFact i)) e W w') := Lib.hid fun W a c h => cNot_any a c (ccFact i) W h
  have HD2 : Hid (∀ W a c, RN W a (ccNot (ccFact i)) → Calls Tryd.prog 16 #[.int .i64 g, .slice a (ccNot (ccFact i)).length c] W fun e w' => RetN (ccDist g (ccNot (ccFact i))) e W w') := Lib.hid fun W a c h => cDist_any g a c (ccNot (ccFact i)) W h
  generalize ccDist g (ccFact i) = D1 at *
  generalize ccDist g (ccNot (ccFact i)) = D2 at *
  generalize ccNot (ccFact i) = NF at *
  generalize ccFact i = FF at *
  have HA1 : Hid (∀ W a c, RM W va ra ⟨(N : Int), V, R⟩ → RN W a D1 → Calls Tryd.prog 15 #[.agg #[.int .i64 (N : Int), .slice va V.length vc, .slice ra R.length rc], .int .i64 (x : Int), .slice a D1.length c] W fun e w' => RetP (.bool (atOf ⟨(N : Int), V, R⟩ (x : Int) D1)) (atErr ⟨(N : Int), V, R⟩ (x : Int) D1) e W w') := Lib.hid fun W a c => HAT.out W a c D1
  have HA2 : Hid (∀ W a c, RM W va ra ⟨(N : Int), V, R⟩ → RN W a D2 → Calls Tryd.prog 15 #[.agg #[.int .i64 (N : Int), .slice va V.length vc, .slice ra R.length rc], .int .i64 (x : Int), .slice a D2.length c] W fun e w' => RetP (.bool (atOf ⟨(N : Int), V, R⟩ (x : Int) D2)) (atErr ⟨(N : Int), V, R⟩ (x : Int) D2) e W w') := Lib.hid fun W a c => HAT.out W a c D2
  generalize atOf ⟨(N : Int), V, R⟩ (x : Int) D1 = y1 at *
  generalize atOf ⟨(N : Int), V, R⟩ (x : Int) D2 = y2 at *
  generalize atErr ⟨(N : Int), V, R⟩ (x : Int) D1 = e1 at *
  generalize atErr ⟨(N : Int), V, R⟩ (x : Int) D2 = e2 at *
  have HE0 := Lib.hid hE0
  clear hE0 hm HAT
  go_enter Tryd.func47, Tryd.ntmps47
  go_wp2_with fail
  refine (HFA.out _).mono ?_
  rintro _ w1 ⟨fa, fc, rfl, hrf, hE1⟩
  dsimp only
  have HRF : Hid (∀ W, Ext w1 W → RN W fa FF) := Lib.hid fun W e => hrf.ext e
  have HRM : Hid (∀ W, Ext w1 W → RM W va ra ⟨(N : Int), V, R⟩) := Lib.hid fun W e => HM.out.ext' (hE1.trans e)
  have HKP : Hid (∀ w', Ext w1 w' → w'.cell? ⟨w.heap.size, 0, none⟩ = some (.int .i64 (N : Int)) ∧ w'.cell? ⟨w.heap.size, 1, none⟩ = some (.slice va V.length vc) ∧ w'.cell? ⟨w.heap.size, 2, none⟩ = some (.slice ra R.length rc) ∧ w'.cell? ⟨w.heap.size, 3, none⟩ = some (.int .i64 (x : Int))) := Lib.hid fun w' e => by
    obtain ⟨c0, c1, c2, c3, -⟩ := HB0.out.ext (hE1.trans e)
    exact ⟨c0, c1, c2, c3⟩
  have HE1 := Lib.hid hE1
  have HA1 : Hid (∀ W a c, Ext w1 W → RN W a D1 → Calls Tryd.prog 15 #[.agg #[.int .i64 (N : Int), .slice va V.length vc, .slice ra R.length rc], .int .i64 (x : Int), .slice a D1.length c] W fun e w' => RetP (.bool y1) e1 e W w') := Lib.hid fun W a c h => HA1.out W a c (HRM.out W h)
  obtain ⟨m0, m1, m2, m3⟩ := HKP.out w1 (Ext.refl _)
  have ml := World.block_lt_of_cell? _ _ m0
  clear hrf hE1
  go_upto_region 2 with fail
  go_cut [8, 9] from 14 to 24 (fun s1 s2 wc => s1 = .bool y1 ∧ Hid (Ext w1 wc))
  case first =>
    go_region_held3 (fun w' => w'.cell? ⟨w.heap.size, 0, none⟩ = some (.int .i64 (N : Int)) ∧ w'.cell? ⟨w.heap.size, 1, none⟩ = some (.slice va V.length vc) ∧ w'.cell? ⟨w.heap.size, 2, none⟩ = some (.slice ra R.length rc) ∧ w'.cell? ⟨w.heap.size, 3, none⟩ = some (.int .i64 (x : Int))) (first | exact HKP.out _ (Ext.refl _) | exact HKP.out _ ((Ext.refl _).drew) | exact HKP.out _ (by first | exact Ext.refl _ | exact (Ext.refl _).drew | assumption | (refine Ext.trans ?_ (by assumption); first | exact Ext.refl _ | exact (Ext.refl _).drew | assumption | (refine Ext.trans ?_ (by assumption); first | exact Ext.refl _ | exact (Ext.refl _).drew | assumption | (refine Ext.trans ?_ (by assumption); first | exact Ext.refl _ | exact (Ext.refl _).drew | assumption)))) | go_keep)
      (first | (go_at_call 16; refine (HD1.out _ _ _ (HRF.out _ (by first | exact Ext.refl _ | exact (Ext.refl _).drew | assumption | (refine Ext.trans ?_ (by assumption); first | exact Ext.refl _ | exact (Ext.refl _).drew | assumption | (refine Ext.trans ?_ (by assumption); first | exact Ext.refl _ | exact (Ext.refl _).drew | assumption | (refine Ext.trans ?_ (by assumption); first | exact Ext.refl _ | exact (Ext.refl _).drew | assumption)))))).mono ?_; rintro _ wd ⟨da, dc, rfl, hrd, hYd⟩) | (go_at_call 15; refine (HA1.out _ _ _ (by first | exact Ext.refl _ | exact (Ext.refl _).drew | assumption | (refine Ext.trans ?_ (by assumption); first | exact Ext.refl _ | exact (Ext.refl _).drew | assumption | (refine Ext.trans ?_ (by assumption); first | exact Ext.refl _ | exact (Ext.refl _).drew | assumption | (refine Ext.trans ?_ (by assumption); first | exact Ext.refl _ | exact (Ext.refl _).drew | assumption)))) (by assumption)).mono ?_; rintro _ wv ⟨rfl, hYv⟩) | fail)
    all_goals
      go_wp2_with fail
      go_meet
      case rel => exact ⟨rfl, Lib.hid (by first | exact Ext.refl _ | exact (Ext.refl _).drew | assumption | (refine Ext.trans ?_ (by assumption); first | exact Ext.refl _ | exact (Ext.refl _).drew | assumption | (refine Ext.trans ?_ (by assumption); first | exact Ext.refl _ | exact (Ext.refl _).drew | assumption | (refine Ext.trans ?_ (by assumption); first | exact Ext.refl _ | exact (Ext.refl _).drew | assumption))))⟩
  case rest =>
    obtain ⟨rfl, HEC⟩ := hcut
    rename World => w2
    have HRF2 : Hid (∀ W, Ext w2 W → RN W fa FF) := Lib.hid fun W e => HRF.out W (HEC.out.trans e)
    have HKP2 : Hid (∀ w', Ext w2 w' → w'.cell? ⟨w.heap.size, 0, none⟩ = some (.int .i64 (N : Int)) ∧ w'.cell? ⟨w.heap.size, 1, none⟩ = some (.slice va V.length vc) ∧ w'.cell? ⟨w.heap.size, 2, none⟩ = some (.slice ra R.length rc) ∧ w'.cell? ⟨w.heap.size, 3, none⟩ = some (.int .i64 (x : Int))) := Lib.hid fun w' e => HKP.out w' (HEC.out.trans e)
    have HA3 : Hid (∀ W a c, Ext w2 W → RN W a D2 → Calls Tryd.prog 15 #[.agg #[.int .i64 (N : Int), .slice va V.length vc, .slice ra R.length rc], .int .i64 (x : Int), .slice a D2.length c] W fun e w' => RetP (.bool y2) e2 e W w') := Lib.hid fun W a c h => HA2.out W a c (HRM.out W (HEC.out.trans h))
    clear m0 m1 m2 m3 ml
    obtain ⟨m0, m1, m2, m3⟩ := HKP2.out w2 (Ext.refl _)
    have ml := World.block_lt_of_cell? _ _ m0
    go_upto_region 3 with fail
    go_cut [10, 11] from 25 to 36 (fun s1 s2 wc => s1 = .bool y2 ∧ Hid (Ext w2 wc))
    case first =>
      go_region_held3 (fun w' => w'.cell? ⟨w.heap.size, 0, none⟩ = some (.int .i64 (N : Int)) ∧ w'.cell? ⟨w.heap.size, 1, none⟩ = some (.slice va V.length vc) ∧ w'.cell? ⟨w.heap.size, 2, none⟩ = some (.slice ra R.length rc) ∧ w'.cell? ⟨w.heap.size, 3, none⟩ = some (.int .i64 (x : Int))) (first | exact HKP2.out _ (Ext.refl _) | exact HKP2.out _ ((Ext.refl _).drew) | exact HKP2.out _ (by first | exact Ext.refl _ | exact (Ext.refl _).drew | assumption | (refine Ext.trans ?_ (by assumption); first | exact Ext.refl _ | exact (Ext.refl _).drew | assumption | (refine Ext.trans ?_ (by assumption); first | exact Ext.refl _ | exact (Ext.refl _).drew | assumption | (refine Ext.trans ?_ (by assumption); first | exact Ext.refl _ | exact (Ext.refl _).drew | assumption)))) | go_keep)
        (first | (go_at_call 8; refine (HNO.out _ _ _ (HRF2.out _ (by first | exact Ext.refl _ | exact (Ext.refl _).drew | assumption | (refine Ext.trans ?_ (by assumption); first | exact Ext.refl _ | exact (Ext.refl _).drew | assumption | (refine Ext.trans ?_ (by assumption); first | exact Ext.refl _ | exact (Ext.refl _).drew | assumption | (refine Ext.trans ?_ (by assumption); first | exact Ext.refl _ | exact (Ext.refl _).drew | assumption)))))).mono ?_; rintro _ wn ⟨na, nc, rfl, hrn, hYn⟩) | (go_at_call 16; refine (HD2.out _ _ _ (by assumption)).mono ?_; rintro _ wd ⟨da, dc, rfl, hrd, hYd⟩) | (go_at_call 15; refine (HA3.out _ _ _ (by first | exact Ext.refl _ | exact (Ext.refl _).drew | assumption | (refine Ext.trans ?_ (by assumption); first | exact Ext.refl _ | exact (Ext.refl _).drew | assumption | (refine Ext.trans ?_ (by assumption); first | exact Ext.refl _ | exact (Ext.refl _).drew | assumption | (refine Ext.trans ?_ (by assumption); first | exact Ext.refl _ | exact (Ext.refl _).drew | assumption)))) (by assumption)).mono ?_; rintro _ wv ⟨rfl, hYv⟩) | fail)
      all_goals
        go_wp2_with fail
        go_meet
        case rel => exact ⟨rfl, Lib.hid (by first | exact Ext.refl _ | exact (Ext.refl _).drew | assumption | (refine Ext.trans ?_ (by assumption); first | exact Ext.refl _ | exact (Ext.refl _).drew | assumption | (refine Ext.trans ?_ (by assumption); first | exact Ext.refl _ | exact (Ext.refl _).drew | assumption | (refine Ext.trans ?_ (by assumption); first | exact Ext.refl _ | exact (Ext.refl _).drew | assumption))))⟩
    case rest =>
      obtain ⟨rfl, HEC2⟩ := hcut
      rename World => w3
      cases y1
      all_goals
        go_wp2_with fail
        go_ret
        exact ⟨by rw [HK.out]; rfl, HE0.out.trans (HE1.out.trans (HEC.out.trans HEC2.out))⟩
end Wt

/- Walks: counted, decided, give, ask, Counted, Decided, Learns, Guesses of package secrets (printed by gen_seg.py). -/
namespace Wt
open Go Go.RowKit Go.Maps Go.Proofs Fm

/-- A pointed model and that it was permitted. -/
def RetPB (p : Mo × Int) (e : Ending) (w w' : World) : Prop := ∃ va ra vc rc, e = .returned (.tuple #[.agg #[.int .i64 p.1.worlds, .slice va p.1.val.length vc, .slice ra p.1.rel.length rc, .int .i64 p.2], .bool true]) ∧ (∀ w'', Agree w.heap.size w' w'' → RM w'' va ra p.1) ∧ Ext w w'
/-- A model, a world and no error. -/
def RetG (p : Mo × Int) (e : Ending) (w w' : World) : Prop := ∃ va ra vc rc, e = .returned (.tuple #[.agg #[.int .i64 p.1.worlds, .slice va p.1.val.length vc, .slice ra p.1.rel.length rc], .int .i64 p.2, .int .i64 0]) ∧ (∀ w'', Agree w.heap.size w' w'' → RM w'' va ra p.1) ∧ Ext w w'
theorem stored4 {w w5 : World} {b B : Nat} {x0 y0 z0 t0 : Value} (HO : PAt w5 b x0 y0 z0 t0) (hE : Ext w w5) (hb : w.heap.size ≤ b) (hB : b < B) (x y z t : Value) : Ext w ((((w5.setCell ⟨b, 0, none⟩ x).setCell ⟨b, 1, none⟩ y).setCell ⟨b, 2, none⟩ z).setCell ⟨b, 3, none⟩ t) ∧ PAt ((((w5.setCell ⟨b, 0, none⟩ x).setCell ⟨b, 1, none⟩ y).setCell ⟨b, 2, none⟩ z).setCell ⟨b, 3, none⟩ t) b x y z t ∧ Agree B w5 ((((w5.setCell ⟨b, 0, none⟩ x).setCell ⟨b, 1, none⟩ y).setCell ⟨b, 2, none⟩ z).setCell ⟨b, 3, none⟩ t) ∧ w5.heap.size ≤ ((((w5.setCell ⟨b, 0, none⟩ x).setCell ⟨b, 1, none⟩ y).setCell ⟨b, 2, none⟩ z).setCell ⟨b, 3, none⟩ t).heap.size :=
  ⟨hE.set4 hb x y z t, HO.set4 x y z t, Agree.set4 w5 hB x y z t, by rw [size_set4]; exact Nat.le_refl _⟩
theorem votes_form {n : Nat} (hn : 2 ≤ n ∧ n ≤ 4) : ∃ V R, votesM n = ⟨((2 ^ n : Nat) : Int), V, R⟩ := by
  rw [votes_eq hn]
  exact ⟨(selM n (List.range (2 ^ n))).val, (selM n (List.range (2 ^ n))).rel, by simp [selM]⟩
theorem ones_tab : ∀ n : _root_.Fin 5, ∀ v : _root_.Fin 16, v.val < 2 ^ n.val → onesN v.val ≤ n.val := by decide +kernel
theorem ones_le {n v : Nat} (hn : n ≤ 4) (hv : v < 2 ^ n) : onesN v ≤ n := ones_tab ⟨n, by omega⟩ ⟨v, by have := pow16 hn; omega⟩ hv
theorem pw_int {n : Nat} (h : n ≤ 4) : 1 ≤ p2 n ∧ p2 n ≤ 16 := by
  have := pow16 h
  have := Nat.two_pow_pos n
  unfold p2; omega
set_option maxRecDepth 20000 in
set_option maxHeartbeats 4000000 in
theorem counted_any (n v : Nat) (hn : 2 ≤ n ∧ n ≤ 4) (hv : v < 2 ^ n) (w : World) (hT : Tab w) :
    Calls Tryd.prog 28 #[.int .i64 (n : Int), .int .i64 (v : Int)] w fun e w' => RetPB (countedW n v) e w w' := by
  have hp16 := pow16 hn.2
  have h63 : n < 63 := by omega
  obtain ⟨hq1, hq2⟩ := pw_int hn.2
  have hb1 : btw (v : Int) 0 (p2 n - 1) = true := btw_yes (by unfold p2; omega)
  have HV := Lib.hid (votes_any n hn)
  have HWD : Hid (countedW n v = annW (votesM n, (v : Int)) (tallyF n (onesN v))) := Lib.hid rfl
  obtain ⟨V, R, hvm⟩ := votes_form hn
  rw [hvm] at HV HWD
  have HTL := Lib.hid (tally_any n (onesN v) hn (ones_le hn.2 hv))
  have hE0 : Ext w (w.alloc (.cells #[.int .i64 0, .slice none 0 0, .slice none 0 0, .int .i64 0] 64)) := (Ext.refl w).alloc _
  have HP0 := Lib.hid (PAt.new w (.int .i64 0) (.slice none 0 0) (.slice none 0 0) (.int .i64 0) 64)
  have HE0 := Lib.hid hE0
  have HT := Lib.hid hT
  have HAN := Lib.hid (fun va ra vc rc la lc W (hm : RM W va ra ⟨((2 ^ n : Nat) : Int), V, R⟩) (hl : RNN W la [tallyF n (onesN v)]) (h : Tab W) => announce_any (2 ^ n) V R va ra vc rc v la lc (tallyF n (onesN v)) W (by omega) (by omega) hm hl h)
  have HCT := Lib.hid (count_any v (by omega))
  rw [← HWD.out] at HAN
  generalize tallyF n (onesN v) = F at *
  generalize hwd : countedW n v = P at *
  have HPE := Lib.hid hwd
  have HV1 : Hid (v < 2 ^ n) := Lib.hid hv
  generalize hNN : 2 ^ n = NN at *
  clear hwd HWD hvm hE0 hT hp16 hNN hv
  go_enter Tryd.func28, Tryd.ntmps28
  go_wp2_with fail
  refine (HV.out _).mono ?_
  rintro _ w1 ⟨va, ra, vc, rc, rfl, hk1, hE1⟩
  have HK1 := Lib.hid hk1
  have HE1 := Lib.hid hE1
  have HA1 : Hid (Ext w1 (w1.alloc (.cells #[.int .i64 (NN : Int), .slice va V.length vc, .slice ra R.length rc] 28))) := Lib.hid ((Ext.refl w1).alloc _)
  have HO1 := Lib.hid (OutAt.new w1 (.int .i64 (NN : Int)) (.slice va V.length vc) (.slice ra R.length rc) 28)
  clear hk1 hE1
  dsimp only
  go_wp2_with (first | (go_at_call 19; refine (between_any _ _ _ _).mono ?_; rintro _ _ ⟨rfl, rfl⟩) | (go_at_call 22; refine (HCT.out _).mono ?_; rintro _ _ ⟨rfl, rfl⟩) | fail)
  refine (HTL.out _).mono ?_
  rintro _ w2 ⟨ta, tc, rfl, hr2, hE2⟩
  have HR2 := Lib.hid hr2
  have HE2 := Lib.hid hE2
  have HO2 := Lib.hid (HO1.out.ext hE2)
  obtain ⟨o0, o1, o2, -⟩ := HO2.out
  have ol := HO2.out.lt
  clear hr2 hE2
  dsimp only
  go_wp2_with fail
  have HA2 : Hid (Ext w2 (w2.alloc (.cells #[.slice ta F.length tc] 31))) := Lib.hid ((Ext.refl w2).alloc _)
  refine (HAN.out va ra vc rc (some ⟨w2.heap.size, 0, none⟩) 1 _ (HK1.out _ (Agree.ofExt (HA1.out.trans (HE2.out.trans HA2.out)))) (RNN.one w2 ta tc F 31 HR2.out) (HT.out.ext (HE0.out.trans (HE1.out.trans (HA1.out.trans (HE2.out.trans HA2.out)))))).mono ?_
  rintro _ w4 ⟨va4, ra4, vc4, rc4, rfl, hk4, hE4⟩
  have HK4 := Lib.hid hk4
  have HE4 := Lib.hid (HE0.out.trans (HE1.out.trans (HA1.out.trans (HE2.out.trans (HA2.out.trans hE4)))))
  have HP4 := Lib.hid (HP0.out.ext (HE1.out.trans (HA1.out.trans (HE2.out.trans (HA2.out.trans hE4)))))
  have HLT : Hid (w.heap.size < (w2.alloc (.cells #[.slice ta F.length tc] 31)).heap.size) := Lib.hid (HP0.out.ext (HE1.out.trans (HA1.out.trans (HE2.out.trans HA2.out)))).lt
  obtain ⟨r0, r1, r2, r3, rf⟩ := HP4.out
  have f0 := rf 0
  have f1 := rf 1
  have f2 := rf 2
  have f3 := rf 3
  have rl := HP4.out.lt
  clear hk4 hE4 rf o0 o1 o2 ol
  dsimp only
  go_wp2_with fail
  have hst := stored4 HP4.out HE4.out (Nat.le_refl _) HLT.out (.int .i64 P.1.worlds) (.slice va4 P.1.val.length vc4) (.slice ra4 P.1.rel.length rc4) (.int .i64 P.2)
  generalize (((w4.setCell ⟨w.heap.size, 0, none⟩ (.int .i64 P.1.worlds)).setCell ⟨w.heap.size, 1, none⟩ (.slice va4 P.1.val.length vc4)).setCell ⟨w.heap.size, 2, none⟩ (.slice ra4 P.1.rel.length rc4)).setCell ⟨w.heap.size, 3, none⟩ (.int .i64 P.2) = W2 at *
  obtain ⟨hEx, ⟨d0, d1, d2, d3, -⟩, hag, hsw⟩ := hst
  refine bodyPost_ret (v := .tuple #[.agg #[.int .i64 P.1.worlds, .slice va4 P.1.val.length vc4, .slice ra4 P.1.rel.length rc4, .int .i64 P.2], .bool true]) ?_ rfl ?_
  · rw [results_cell_w rfl]
    go_simp
  · first | rw [HPE.out] | skip
    exact ⟨va4, ra4, vc4, rc4, rfl, fun w'' ha => HK4.out w'' (agree_up hag ha (Nat.le_of_lt HLT.out) hsw), hEx⟩
set_option maxRecDepth 20000 in
set_option maxHeartbeats 4000000 in
theorem decided_any (n v q : Nat) (hn : 2 ≤ n ∧ n ≤ 4) (hv : v < 2 ^ n) (hq : q ≤ n) (w : World) (hT : Tab w) :
    Calls Tryd.prog 29 #[.int .i64 (n : Int), .int .i64 (v : Int), .int .i64 (q : Int)] w fun e w' => RetPB (decidedW n v q) e w w' := by
  have hp16 := pow16 hn.2
  have h63 : n < 63 := by omega
  obtain ⟨hq1, hq2⟩ := pw_int hn.2
  have hb1 : btw (v : Int) 0 (p2 n - 1) = true := btw_yes (by unfold p2; omega)
  have hb2 : btw (q : Int) 0 (n : Int) = true := btw_yes (by omega)
  have HV := Lib.hid (votes_any n hn)
  have HWD : Hid (decidedW n v q = annW (votesM n, (v : Int)) (passF n q)) := Lib.hid rfl
  obtain ⟨V, R, hvm⟩ := votes_form hn
  rw [hvm] at HV HWD
  have HTL := Lib.hid (passes_any n q hn hq)
  have hE0 : Ext w (w.alloc (.cells #[.int .i64 0, .slice none 0 0, .slice none 0 0, .int .i64 0] 64)) := (Ext.refl w).alloc _
  have HP0 := Lib.hid (PAt.new w (.int .i64 0) (.slice none 0 0) (.slice none 0 0) (.int .i64 0) 64)
  have HE0 := Lib.hid hE0
  have HT := Lib.hid hT
  have HAN := Lib.hid (fun va ra vc rc la lc W (hm : RM W va ra ⟨((2 ^ n : Nat) : Int), V, R⟩) (hl : RNN W la [passF n q]) (h : Tab W) => announce_any (2 ^ n) V R va ra vc rc v la lc (passF n q) W (by omega) (by omega) hm hl h)
  have HCT := Lib.hid (count_any v (by omega))
  rw [← HWD.out] at HAN
  generalize passF n q = F at *
  generalize hwd : decidedW n v q = P at *
  have HPE := Lib.hid hwd
  have HV1 : Hid (v < 2 ^ n) := Lib.hid hv
  generalize hNN : 2 ^ n = NN at *
  clear hwd HWD hvm hE0 hT hp16 hNN hv
  go_enter Tryd.func29, Tryd.ntmps29
  go_wp2_with fail
  refine (HV.out _).mono ?_
  rintro _ w1 ⟨va, ra, vc, rc, rfl, hk1, hE1⟩
  have HK1 := Lib.hid hk1
  have HE1 := Lib.hid hE1
  have HA1 : Hid (Ext w1 (w1.alloc (.cells #[.int .i64 (NN : Int), .slice va V.length vc, .slice ra R.length rc] 28))) := Lib.hid ((Ext.refl w1).alloc _)
  have HO1 := Lib.hid (OutAt.new w1 (.int .i64 (NN : Int)) (.slice va V.length vc) (.slice ra R.length rc) 28)
  clear hk1 hE1
  dsimp only
  go_wp2_with (first | (go_at_call 19; refine (between_any _ _ _ _).mono ?_; rintro _ _ ⟨rfl, rfl⟩) | (go_at_call 22; refine (HCT.out _).mono ?_; rintro _ _ ⟨rfl, rfl⟩) | fail)
  refine (HTL.out _).mono ?_
  rintro _ w2 ⟨ta, tc, rfl, hr2, hE2⟩
  have HR2 := Lib.hid hr2
  have HE2 := Lib.hid hE2
  have HO2 := Lib.hid (HO1.out.ext hE2)
  obtain ⟨o0, o1, o2, -⟩ := HO2.out
  have ol := HO2.out.lt
  clear hr2 hE2
  dsimp only
  go_wp2_with fail
  have HA2 : Hid (Ext w2 (w2.alloc (.cells #[.slice ta F.length tc] 31))) := Lib.hid ((Ext.refl w2).alloc _)
  refine (HAN.out va ra vc rc (some ⟨w2.heap.size, 0, none⟩) 1 _ (HK1.out _ (Agree.ofExt (HA1.out.trans (HE2.out.trans HA2.out)))) (RNN.one w2 ta tc F 31 HR2.out) (HT.out.ext (HE0.out.trans (HE1.out.trans (HA1.out.trans (HE2.out.trans HA2.out)))))).mono ?_
  rintro _ w4 ⟨va4, ra4, vc4, rc4, rfl, hk4, hE4⟩
  have HK4 := Lib.hid hk4
  have HE4 := Lib.hid (HE0.out.trans (HE1.out.trans (HA1.out.trans (HE2.out.trans (HA2.out.trans hE4)))))
  have HP4 := Lib.hid (HP0.out.ext (HE1.out.trans (HA1.out.trans (HE2.out.trans (HA2.out.trans hE4)))))
  have HLT : Hid (w.heap.size < (w2.alloc (.cells #[.slice ta F.length tc] 31)).heap.size) := Lib.hid (HP0.out.ext (HE1.out.trans (HA1.out.trans (HE2.out.trans HA2.out)))).lt
  obtain ⟨r0, r1, r2, r3, rf⟩ := HP4.out
  have f0 := rf 0
  have f1 := rf 1
  have f2 := rf 2
  have f3 := rf 3
  have rl := HP4.out.lt
  clear hk4 hE4 rf o0 o1 o2 ol
  dsimp only
  go_wp2_with fail
  have hst := stored4 HP4.out HE4.out (Nat.le_refl _) HLT.out (.int .i64 P.1.worlds) (.slice va4 P.1.val.length vc4) (.slice ra4 P.1.rel.length rc4) (.int .i64 P.2)
  generalize (((w4.setCell ⟨w.heap.size, 0, none⟩ (.int .i64 P.1.worlds)).setCell ⟨w.heap.size, 1, none⟩ (.slice va4 P.1.val.length vc4)).setCell ⟨w.heap.size, 2, none⟩ (.slice ra4 P.1.rel.length rc4)).setCell ⟨w.heap.size, 3, none⟩ (.int .i64 P.2) = W2 at *
  obtain ⟨hEx, ⟨d0, d1, d2, d3, -⟩, hag, hsw⟩ := hst
  refine bodyPost_ret (v := .tuple #[.agg #[.int .i64 P.1.worlds, .slice va4 P.1.val.length vc4, .slice ra4 P.1.rel.length rc4, .int .i64 P.2], .bool true]) ?_ rfl ?_
  · rw [results_cell_w rfl]
    go_simp
  · first | rw [HPE.out] | skip
    exact ⟨va4, ra4, vc4, rc4, rfl, fun w'' ha => HK4.out w'' (agree_up hag ha (Nat.le_of_lt HLT.out) hsw), hEx⟩
set_option maxRecDepth 20000 in
set_option maxHeartbeats 2000000 in
theorem give_any (W x : Int) (va ra : Option Addr) (vl rl vc rc : Nat) (w : World) :
    Calls Tryd.prog 27 #[.agg #[.int .i64 W, .slice va vl vc, .slice ra rl rc, .int .i64 x], .bool true] w fun e w' => e = .returned (.tuple #[.agg #[.int .i64 W, .slice va vl vc, .slice ra rl rc], .int .i64 x, .int .i64 0]) ∧ Ext w w' := by
  have hE0 : Ext w ((w.alloc (.cells #[.int .i64 W, .slice va vl vc, .slice ra rl rc, .int .i64 x] 64)).alloc (.cells #[.int .i64 0, .slice none 0 0, .slice none 0 0] 28)) := ((Ext.refl w).alloc _).alloc _
  have hB0 := (PAt.new w (.int .i64 W) (.slice va vl vc) (.slice ra rl rc) (.int .i64 x) 64).ext ((Ext.refl _).alloc (.cells #[.int .i64 0, .slice none 0 0, .slice none 0 0] 28))
  have hO0 := OutAt.new1 w (.cells #[.int .i64 W, .slice va vl vc, .slice ra rl rc, .int .i64 x] 64) (.int .i64 0) (.slice none 0 0) (.slice none 0 0) 28
  have HE0 := Lib.hid hE0
  have HB0 := Lib.hid hB0
  have HO0 := Lib.hid hO0
  clear hE0 hB0 hO0
  go_enter Tryd.func27, Tryd.ntmps27
  go_wp2_with fail
  generalize (w.alloc (.cells #[.int .i64 W, .slice va vl vc, .slice ra rl rc, .int .i64 x] 64)).alloc (.cells #[.int .i64 0, .slice none 0 0, .slice none 0 0] 28) = W0 at *
  obtain ⟨p0, p1, p2, p3, -⟩ := HB0.out
  have pl := HB0.out.lt
  obtain ⟨r0, r1, r2, rf⟩ := HO0.out
  have f0 := rf 0
  have f1 := rf 1
  have f2 := rf 2
  have hrl := HO0.out.lt
  clear rf
  go_region
  clear p0 p1 p2 p3 pl r0 r1 r2 f0 f1 f2 hrl
  have hst := stored3 HO0.out HE0.out (by omega) (Nat.lt_succ_self _) (.int .i64 W) (.slice va vl vc) (.slice ra rl rc)
  generalize ((W0.setCell ⟨w.heap.size + 1, 0, none⟩ (.int .i64 W)).setCell ⟨w.heap.size + 1, 1, none⟩ (.slice va vl vc)).setCell ⟨w.heap.size + 1, 2, none⟩ (.slice ra rl rc) = W1 at *
  obtain ⟨hEx, hO1, -, -⟩ := hst
  obtain ⟨d0, d1, d2, -⟩ := hO1.ext (Ext.refl W1).drew
  have hE2 := hEx.trans (Ext.refl W1).drew
  generalize W1.drew = W2 at *
  go_wp2
  refine bodyPost_ret (v := .tuple #[.agg #[.int .i64 W, .slice va vl vc, .slice ra rl rc], .int .i64 x, .int .i64 0]) ?_ rfl ?_
  · rw [results_cell_two rfl]
    go_simp
  · exact ⟨rfl, hE2⟩
set_option maxHeartbeats 2000000 in
theorem ask_any (N : Nat) (V : List (BitVec 64)) (R : List (List (BitVec 64))) (va ra : Option Addr) (vc rc x n : Nat) (g i : Int) (w : World) (hm : RM w va ra ⟨(N : Int), V, R⟩) (hn : 2 ≤ n ∧ n ≤ 4) (hg : 1 ≤ g ∧ g ≤ p2 n - 1) (hi : 0 ≤ i ∧ i ≤ (n : Int) - 1) :
    Calls Tryd.prog 31 #[.agg #[.int .i64 (N : Int), .slice va V.length vc, .slice ra R.length rc, .int .i64 (x : Int)], .bool true, .int .i64 (n : Int), .int .i64 g, .int .i64 i] w fun e w' => RetP (.bool (knowsW (⟨(N : Int), V, R⟩, (x : Int)) g i)) 0 e w w' := by
  have h63 : n < 63 := by omega
  obtain ⟨hq1, hq2⟩ := pw_int hn.2
  have hb1 : btw g 1 (p2 n - 1) = true := btw_yes hg
  have hb2 : btw i 0 ((n : Int) - 1) = true := btw_yes hi
  have hE0 : Ext w (w.alloc (.cells #[.int .i64 (N : Int), .slice va V.length vc, .slice ra R.length rc, .int .i64 (x : Int)] 64)) := (Ext.refl w).alloc _
  have HK := Lib.hid (knows_any N V R va ra vc rc x g i _ (hm.ext' hE0))
  generalize knowsW (⟨(N : Int), V, R⟩, (x : Int)) g i = y at *
  clear hm
  go_enter Tryd.func31, Tryd.ntmps31
  go_wp2_with (first | (go_at_call 19; refine (between_any _ _ _ _).mono ?_; rintro _ _ ⟨rfl, rfl⟩) | (go_at_call 47; refine HK.out.mono ?_; rintro _ w1 ⟨rfl, hE1⟩))
  go_ret2
  exact ⟨rfl, hE0.trans hE1⟩
set_option maxRecDepth 20000 in
set_option maxHeartbeats 4000000 in
theorem Counted_any (n v : Nat) (hn : 2 ≤ n ∧ n ≤ 4) (hv : v < 2 ^ n) (w : World) (hT : Tab w) :
    Calls Tryd.prog 10 #[.int .i64 (n : Int), .int .i64 (v : Int)] w fun e w' => RetG (countedW n v) e w w' := by
  have hE0 : Ext w (w.alloc (.cells #[.int .i64 0, .slice none 0 0, .slice none 0 0] 28)) := (Ext.refl w).alloc _
  have HO0 := Lib.hid (OutAt.new w (.int .i64 0) (.slice none 0 0) (.slice none 0 0) 28)
  have HC := Lib.hid (counted_any n v hn hv _ (hT.ext hE0))
  generalize countedW n v = P at *
  have HE0 := Lib.hid hE0
  have HL0 := Lib.hid HO0.out.lt
  clear hE0 hT hv
  go_enter Tryd.func10, Tryd.ntmps10
  go_wp2_with fail
  refine HC.out.mono ?_
  rintro _ w1 ⟨va, ra, vc, rc, rfl, hk1, hE1⟩
  have HK1 := Lib.hid hk1
  have HE1 := Lib.hid hE1
  clear hk1 hE1
  dsimp only
  go_wp2_with fail
  refine (give_any P.1.worlds P.2 va ra P.1.val.length P.1.rel.length vc rc _).mono ?_
  rintro _ w2 ⟨rfl, hE2⟩
  have HE2 := Lib.hid hE2
  have HO2 := Lib.hid (HO0.out.ext (HE1.out.trans hE2))
  obtain ⟨r0, r1, r2, rf⟩ := HO2.out
  have f0 := rf 0
  have f1 := rf 1
  have f2 := rf 2
  have rl := HO2.out.lt
  clear rf hE2
  dsimp only
  go_wp2_with fail
  have hst := stored3 HO2.out (HE0.out.trans (HE1.out.trans HE2.out)) (Nat.le_refl _) HL0.out (.int .i64 P.1.worlds) (.slice va P.1.val.length vc) (.slice ra P.1.rel.length rc)
  generalize ((w2.setCell ⟨w.heap.size, 0, none⟩ (.int .i64 P.1.worlds)).setCell ⟨w.heap.size, 1, none⟩ (.slice va P.1.val.length vc)).setCell ⟨w.heap.size, 2, none⟩ (.slice ra P.1.rel.length rc) = W2 at *
  obtain ⟨hEx, ⟨d0, d1, d2, -⟩, hag, hsw⟩ := hst
  refine bodyPost_ret (v := .tuple #[.agg #[.int .i64 P.1.worlds, .slice va P.1.val.length vc, .slice ra P.1.rel.length rc], .int .i64 P.2, .int .i64 0]) ?_ rfl ?_
  · rw [results_cell_two rfl]
    go_simp
  · refine ⟨va, ra, vc, rc, rfl, fun w'' ha => HK1.out w'' ?_, hEx⟩
    exact (Agree.ofExt HE2.out).trans (agree_up hag ha (Nat.le_of_lt HL0.out) hsw) HE2.out.size
set_option maxRecDepth 20000 in
set_option maxHeartbeats 4000000 in
theorem Decided_any (n v q : Nat) (hn : 2 ≤ n ∧ n ≤ 4) (hv : v < 2 ^ n) (hq : q ≤ n) (w : World) (hT : Tab w) :
    Calls Tryd.prog 11 #[.int .i64 (n : Int), .int .i64 (v : Int), .int .i64 (q : Int)] w fun e w' => RetG (decidedW n v q) e w w' := by
  have hE0 : Ext w (w.alloc (.cells #[.int .i64 0, .slice none 0 0, .slice none 0 0] 28)) := (Ext.refl w).alloc _
  have HO0 := Lib.hid (OutAt.new w (.int .i64 0) (.slice none 0 0) (.slice none 0 0) 28)
  have HC := Lib.hid (decided_any n v q hn hv hq _ (hT.ext hE0))
  generalize decidedW n v q = P at *
  have HE0 := Lib.hid hE0
  have HL0 := Lib.hid HO0.out.lt
  clear hE0 hT hv
  go_enter Tryd.func11, Tryd.ntmps11
  go_wp2_with fail
  refine HC.out.mono ?_
  rintro _ w1 ⟨va, ra, vc, rc, rfl, hk1, hE1⟩
  have HK1 := Lib.hid hk1
  have HE1 := Lib.hid hE1
  clear hk1 hE1
  dsimp only
  go_wp2_with fail
  refine (give_any P.1.worlds P.2 va ra P.1.val.length P.1.rel.length vc rc _).mono ?_
  rintro _ w2 ⟨rfl, hE2⟩
  have HE2 := Lib.hid hE2
  have HO2 := Lib.hid (HO0.out.ext (HE1.out.trans hE2))
  obtain ⟨r0, r1, r2, rf⟩ := HO2.out
  have f0 := rf 0
  have f1 := rf 1
  have f2 := rf 2
  have rl := HO2.out.lt
  clear rf hE2
  dsimp only
  go_wp2_with fail
  have hst := stored3 HO2.out (HE0.out.trans (HE1.out.trans HE2.out)) (Nat.le_refl _) HL0.out (.int .i64 P.1.worlds) (.slice va P.1.val.length vc) (.slice ra P.1.rel.length rc)
  generalize ((w2.setCell ⟨w.heap.size, 0, none⟩ (.int .i64 P.1.worlds)).setCell ⟨w.heap.size, 1, none⟩ (.slice va P.1.val.length vc)).setCell ⟨w.heap.size, 2, none⟩ (.slice ra P.1.rel.length rc) = W2 at *
  obtain ⟨hEx, ⟨d0, d1, d2, -⟩, hag, hsw⟩ := hst
  refine bodyPost_ret (v := .tuple #[.agg #[.int .i64 P.1.worlds, .slice va P.1.val.length vc, .slice ra P.1.rel.length rc], .int .i64 P.2, .int .i64 0]) ?_ rfl ?_
  · rw [results_cell_two rfl]
    go_simp
  · refine ⟨va, ra, vc, rc, rfl, fun w'' ha => HK1.out w'' ?_, hEx⟩
    exact (Agree.ofExt HE2.out).trans (agree_up hag ha (Nat.le_of_lt HL0.out) hsw) HE2.out.size
set_option maxRecDepth 20000 in
set_option maxHeartbeats 4000000 in
theorem Learns_any (n v : Nat) (g i : Int) (hn : 2 ≤ n ∧ n ≤ 4) (hv : v < 2 ^ n) (hg : 1 ≤ g ∧ g ≤ p2 n - 1) (hi : 0 ≤ i ∧ i ≤ (n : Int) - 1) (w : World) (hT : Tab w) :
    Calls Tryd.prog 14 #[.int .i64 (n : Int), .int .i64 (v : Int), .int .i64 g, .int .i64 i] w fun e w' => RetP (.bool (knowsW (countedW n v) g i)) 0 e w w' := by
  have HC := Lib.hid (counted_any n v hn hv w hT)
  obtain ⟨N, x, ok, -, hpx, hxN, -, -⟩ := okP_at (cnt_okP hn hv)
  have hwN := ok.worlds
  generalize countedW n v = P at *
  obtain ⟨⟨W, V, R⟩, px⟩ := P
  obtain rfl : W = (N : Int) := hwN
  obtain rfl : px = (x : Int) := hpx
  have HA := Lib.hid (fun va ra vc rc W (hm : RM W va ra ⟨(N : Int), V, R⟩) => ask_any N V R va ra vc rc x n g i W hm hn hg hi)
  generalize knowsW (⟨(N : Int), V, R⟩, (x : Int)) g i = y at *
  clear ok hxN hT hv hg hi
  go_enter Tryd.func14, Tryd.ntmps14
  go_wp2_with fail
  refine HC.out.mono ?_
  rintro _ w1 ⟨va, ra, vc, rc, rfl, hk1, hE1⟩
  have hA1 : Ext w1 (w1.alloc (.cells #[.int .i64 (N : Int), .slice va V.length vc, .slice ra R.length rc, .int .i64 (x : Int)] 64)) := (Ext.refl w1).alloc _
  have HM1 := Lib.hid (hk1 _ (Agree.ofExt hA1))
  have HE1 := Lib.hid (hE1.trans hA1)
  clear hk1 hE1 hA1
  dsimp only
  go_wp2_with fail
  refine (HA.out va ra vc rc _ HM1.out).mono ?_
  rintro _ w2 ⟨rfl, hE2⟩
  dsimp only
  go_wp2_with fail
  go_ret2
  exact ⟨rfl, HE1.out.trans hE2⟩
end Wt
