/- Walks: wittingref13.Few with what it says; wittingtop.dKept; action.Public for one agent (printed by gen_tpb.py). -/
import Derived.Test.YtbeaagnahldefaaDoorM8Az
import Derived.Test.YtbeaagnahldefaaDoorM8Bb
import Derived.Test.YtbeaagnahldefaaDoorM8Ay
import Derived.Test.YtbeaagnahldefaaDoorM8Ap
import Derived.Test.YtbeaagnahldefaaDoorM8Bc
import Derived.Test.YtbeaagnahldefaaDoorM8Ba
namespace Wt
open Go Go.RowKit Go.Maps Go.Proofs Fm

def RetBn (M : Mo) (n : Int) (e : Ending) (w w' : World) : Prop := ∃ b, e = .returned (.bool b) ∧ (b = true → ¬ (n < M.worlds ∧ M.worlds ≤ 64)) ∧ Ext w w'
set_option maxRecDepth 20000 in
set_option maxHeartbeats 2000000 in
theorem r13FewN_any (M : Mo) (va ra : Option Addr) (vc rc : Nat) (n : Int) (w : World) (hm : RM w va ra M) :
    Calls Tryd.prog 17 #[.agg #[.int .i64 M.worlds, .slice va M.val.length vc, .slice ra M.rel.length rc], .int .i64 n] w fun e w' => RetBn M n e w w' := by
  obtain ⟨W, V, R⟩ := M
  have hE0 := (Ext.refl w).alloc (.cells #[.int .i64 W, .slice va V.length vc, .slice ra R.length rc] 25)
  have hR : RR _ ra R := (hm.ext hE0).rel
  obtain ⟨m0, m1, m2⟩ := MoBox.new w W V R va vc ra rc 25
  have hvl := hm.val.len
  have hrl := hm.rel.len
  dsimp only at hvl hrl m0 m1 m2 ⊢
  have HE := Lib.hid hE0
  have HR := Lib.hid hR
  clear hE0 hm hR
  by_cases hc : (n < W ∧ W ≤ 64) ∨ 20 < V.length ∨ 10 < R.length
  · go_enter Tryd.func17, Tryd.ntmps17
    go_wp2
    all_goals first
      | (go_ret; exact ⟨_, rfl, (fun h => by cases h), HE.out⟩)
      | (exfalso; omega)
  · have HNC : Hid (¬ (n < W ∧ W ≤ 64)) := Lib.hid fun h => hc (.inl h)
    have e3 : decide ((20 : Int) < (V.length : Int)) = false := by simp; omega
    have e4 : decide ((10 : Int) < (R.length : Int)) = false := by simp; omega
    by_cases h1 : n < W
    · have e1 : decide (n < W) = true := by simpa using h1
      have e2 : decide (W ≤ 64) = false := by simp; omega
      clear hc h1
      go_enter Tryd.func17, Tryd.ntmps17
      go_wp2
      go_loop [5] (fun i => ∃ k : Nat, k ≤ R.length ∧ i = .int .i64 k) (fun i => R.length - (RowKit.intOf i).toNat)
      case atStart => exact ⟨0, Nat.zero_le _, rfl⟩
      case round =>
        obtain ⟨k, hk, rfl⟩ := hrel
        by_cases hlt : k < R.length
        · obtain ⟨b, off, a', c', rfl, hb, hc', hu⟩ := HR.out.get hlt
          have hul := hu.len
          by_cases hq : 70 < (nth R k).length
          · go_wp2
            go_ret
            exact ⟨_, rfl, (fun _ => HNC.out), HE.out⟩
          · go_wp2
            go_round
            case rel => exact ⟨k + 1, hlt, by go_num⟩
            case measure => simp [RowKit.intOf]; omega
        · go_wp2
          go_ret
          exact ⟨_, rfl, (fun _ => HNC.out), HE.out⟩
    · have e1 : decide (n < W) = false := by simp; omega
      clear hc h1
      go_enter Tryd.func17, Tryd.ntmps17
      go_wp2
      go_loop [5] (fun i => ∃ k : Nat, k ≤ R.length ∧ i = .int .i64 k) (fun i => R.length - (RowKit.intOf i).toNat)
      case atStart => exact ⟨0, Nat.zero_le _, rfl⟩
      case round =>
        obtain ⟨k, hk, rfl⟩ := hrel
        by_cases hlt : k < R.length
        · obtain ⟨b, off, a', c', rfl, hb, hc', hu⟩ := HR.out.get hlt
          have hul := hu.len
          by_cases hq : 70 < (nth R k).length
          · go_wp2
            go_ret
            exact ⟨_, rfl, (fun _ => HNC.out), HE.out⟩
          · go_wp2
            go_round
            case rel => exact ⟨k + 1, hlt, by go_num⟩
            case measure => simp [RowKit.intOf]; omega
        · go_wp2
          go_ret
          exact ⟨_, rfl, (fun _ => HNC.out), HE.out⟩
def keptB (g : Int) : Bool := g == 0 || g == 2 || g == 3 || g == 4 || g == 6
theorem keptB_iff {g : Int} : keptB g = true ↔ keptG g := by simp [keptB, keptG, or_assoc]
set_option maxHeartbeats 1000000 in
theorem dKept_any (g : Int) (w : World) : Calls Tryd.prog 21 #[.int .i64 g] w fun e w' => e = .returned (.bool (keptB g)) ∧ w = w' := by
  by_cases h0 : g = 0
  · subst h0
    go_enter Tryd.func21, Tryd.ntmps21
    go_wp2_with fail
    go_ret
    exact ⟨rfl, rfl⟩
  by_cases h2 : g = 2
  · subst h2
    go_enter Tryd.func21, Tryd.ntmps21
    go_wp2_with fail
    go_ret
    exact ⟨rfl, rfl⟩
  by_cases h3 : g = 3
  · subst h3
    go_enter Tryd.func21, Tryd.ntmps21
    go_wp2_with fail
    go_ret
    exact ⟨rfl, rfl⟩
  by_cases h4 : g = 4
  · subst h4
    go_enter Tryd.func21, Tryd.ntmps21
    go_wp2_with fail
    go_ret
    exact ⟨rfl, rfl⟩
  by_cases h6 : g = 6
  · subst h6
    go_enter Tryd.func21, Tryd.ntmps21
    go_wp2_with fail
    go_ret
    exact ⟨rfl, rfl⟩
  have e0 : (g == 0) = false := by simpa using h0
  have e2 : (g == 2) = false := by simpa using h2
  have e3 : (g == 3) = false := by simpa using h3
  have e4 : (g == 4) = false := by simpa using h4
  have e6 : (g == 6) = false := by simpa using h6
  have HK : Hid (keptB g = false) := Lib.hid (by simp [keptB, e0, e2, e3, e4, e6])
  clear h0 h2 h3 h4 h6
  go_enter Tryd.func21, Tryd.ntmps21
  go_wp2_with fail
  go_ret
  exact ⟨by rw [HK.out]; rfl, rfl⟩
end Wt

/- Walk: action.Public for one agent. -/
namespace Wt
open Go Go.RowKit Go.Maps Go.Proofs Fm

/-- The public announcement of a formula to one agent. -/
def pub1 (f : List Nd) : Acn := ⟨[fCompact f], [[]], [[1#64]]⟩
def RetAc (A : Acn) (e : Ending) (w w' : World) : Prop := ∃ pa qa ra pc qc rc, e = .returned (.tuple #[.agg #[.slice pa A.pre.length pc, .slice qa A.post.length qc, .slice ra A.rel.length rc], .int .i64 0]) ∧ RAc w' pa qa ra A ∧ Ext w w'
theorem RAss.one {w : World} {b : Nat} (hc : w.cell? ⟨b, 0, none⟩ = some (.slice none 0 0)) : RAss w (some ⟨b, 0, none⟩) [[]] :=
  ⟨by simp, fun k hk => by
    obtain rfl : k = 0 := by simp at hk; omega
    exact ⟨b, 0, none, 0, rfl, World.block_lt_of_cell? w _ hc, hc, RAs.nil _ _⟩⟩
theorem RR.one1 {w : World} {B b : Nat} {v : Value} (h : w.ownsRow B 22 1 v 1 [.slice (some ⟨b, 0, none⟩) 1 1]) (hc : w.cell? ⟨b, 0, none⟩ = some (.int .u64 1)) : ∃ a c, v = .slice a 1 c ∧ RR w a [[1#64]] := by
  rcases h.2 with ⟨e, h0⟩ | ⟨g, cap, cur, e, _, hg, hnc, hcm, hcs, htake⟩
  · cases h0
  · subst e
    refine ⟨_, _, rfl, by decide, fun k hk => ?_⟩
    obtain rfl : k = 0 := by simp at hk; omega
    refine ⟨g, 0, some ⟨b, 0, none⟩, 1, rfl, ?_, ⟨by decide, fun j hj => ?_⟩⟩
    · rw [cell_of_row w g _ cur _ (0, 0) hg]
      have h1 := congrArg (fun l => l[0]?) htake
      show cur[0]? = some (.slice (some ⟨b, 0, none⟩) 1 1)
      simpa using h1
    · obtain rfl : j = 0 := by have : j < 1 := hj; omega
      exact ⟨b, 0, rfl, hc⟩
theorem results_cell_pb {fn : Func} {p u : Tmp} {ty : TypeId} (h : fn.results = #[.cell p ty, .tmp u]) (tmps : Array Value) (P : Program) (w : World) :
    (results fn tmps).run P w = ((asAddr (tmps.getD p undef)).run P w).andThen fun a w₁ => ((loadVar ty a).run P w₁).andThen fun x w₂ => .ok (.tuple #[x, tmps.getD u undef]) w₂ := by
  simp only [results, h]
  simp [Sem.run_bind, Result.andThen]
theorem RN.keepF {w w' : World} {a : Option Addr} {l : List Nd} {n : Nat} (h : RN w a l) (hf : Fresh a n) (K : ∀ b, n ≤ b → b < w.heap.size → w'.heap[b]? = w.heap[b]?) : RN w' a l :=
  ⟨h.len, fun k hk => by
    obtain ⟨b, off, e, c0, c1, c2, c3, c4, c5⟩ := h.at_ k hk
    have hb := K b (hf b off e) (World.block_lt_of_cell? _ _ c0)
    have kk : ∀ (o : Nat) (v : Value), w.cell? ⟨b, o, none⟩ = some v → w'.cell? ⟨b, o, none⟩ = some v := fun o v hc => (World.cell?_of_block hb).trans hc
    exact ⟨b, off, e, kk _ _ c0, kk _ _ c1, kk _ _ c2, kk _ _ c3, kk _ _ c4, kk _ _ c5⟩⟩
theorem cell_one_new1 (w : World) (o : Obj) (v : Value) (T : Nat) : ∀ j u, [v][j]? = some u → ((w.alloc o).alloc (.cells #[v] T)).cell? ((⟨w.heap.size + 1, 0, none⟩ : Addr).add j) = some u := by
  have h := cell_one_new (w.alloc o) v T
  rw [show (w.alloc o).heap.size = w.heap.size + 1 by simp] at h
  exact h
set_option maxRecDepth 20000 in
set_option maxHeartbeats 4000000 in
theorem public1_any (fa : Option Addr) (fc : Nat) (f : List Nd) (w : World) (hf : RN w fa f) (hs : stErr f 1 8 = 0) :
    Calls Tryd.prog 51 #[.int .i64 1, .slice fa f.length fc] w fun e w' => RetAc (pub1 f) e w w' := by
  have hE0 : Ext w (w.alloc (.cells #[.slice none 0 0, .slice none 0 0, .slice none 0 0] 45)) := (Ext.refl w).alloc _
  have HOR := Lib.hid (OutAt.new w (.slice none 0 0) (.slice none 0 0) (.slice none 0 0) 45)
  have HE := Lib.hid hE0
  have HF := Lib.hid (hf.ext hE0)
  have hck := (stErr_ok hs).1
  have hst := static_any fa fc f 1 8 _ (hf.ext hE0)
  rw [hs] at hst
  have HST := Lib.hid hst
  have HCK := Lib.hid hck
  have HSZ : Hid ((w.alloc (.cells #[.slice none 0 0, .slice none 0 0, .slice none 0 0] 45)).heap.size = w.heap.size + 1) := Lib.hid (by simp)
  obtain ⟨i2, hj1, hy0, hy1, hy2⟩ := info_parts sl_info
  clear hf hs hE0 hst hck
  go_enter Tryd.func51, Tryd.ntmps51
  go_wp2_with fail
  generalize w.alloc (.cells #[.slice none 0 0, .slice none 0 0, .slice none 0 0] 45) = w0 at *
  refine HST.out.mono ?_
  rintro _ w1 ⟨rfl, hE1⟩
  have HE1 := Lib.hid hE1
  clear hE1 HST
  dsimp only
  go_wp2_with fail
  refine (compactF_fresh fa fc f _ (HF.out.ext HE1.out) HCK.out).mono ?_
  intro _ w2 hR
  obtain ⟨ca, cc, rfl, hn2, hfr, hE2⟩ := hR
  have HFR := Lib.hid hfr
  have HS1 : Hid (w.heap.size < w1.heap.size) := Lib.hid (by have h := HE1.out.size; rw [HSZ.out] at h; omega)
  have HS12 : Hid (w1.heap.size ≤ w2.heap.size) := Lib.hid hE2.size
  have HN2 := Lib.hid hn2
  have HE2 := Lib.hid (HE1.out.trans hE2)
  have HOR2 := Lib.hid (HOR.out.ext (HE1.out.trans hE2))
  clear hn2 hE2 hfr
  have HFL : Hid ((fCompact f).length ≤ 140737488355328) := Lib.hid HN2.out.len
  dsimp only
  go_wp2_with fail
  have hsx : ((w2.alloc (.cells #[.slice ca (fCompact f).length cc] 26)).alloc (.cells #[.slice none 0 0] 89)).heap.size = w2.heap.size + 1 + 1 := by simp
  have HPRE := Lib.hid ((RNN.one w2 ca cc (fCompact f) 26 HN2.out).ext ((Ext.refl _).alloc (.cells #[.slice none 0 0] 89)))
  have HPOST : Hid (RAss ((w2.alloc (.cells #[.slice ca (fCompact f).length cc] 26)).alloc (.cells #[.slice none 0 0] 89)) (some ⟨w2.heap.size + 1, 0, none⟩) [[]]) := Lib.hid (RAss.one (by simp))
  have hx2 : Ext w2 ((w2.alloc (.cells #[.slice ca (fCompact f).length cc] 26)).alloc (.cells #[.slice none 0 0] 89)) := ((Ext.refl w2).alloc _).alloc _
  have HX2 := Lib.hid (HE2.out.trans hx2)
  have HCP : Hid (((w2.alloc (.cells #[.slice ca (fCompact f).length cc] 26)).alloc (.cells #[.slice none 0 0] 89)).cell? ⟨w2.heap.size, 0, none⟩ = some (.slice ca (fCompact f).length cc)) := Lib.hid (((Ext.refl _).alloc _).cell (by simp))
  have HCQ : Hid (((w2.alloc (.cells #[.slice ca (fCompact f).length cc] 26)).alloc (.cells #[.slice none 0 0] 89)).cell? ⟨w2.heap.size + 1, 0, none⟩ = some (.slice none 0 0)) := Lib.hid (by simp)
  have HORX := Lib.hid (HOR2.out.ext hx2)
  have HNX := Lib.hid (HN2.out.ext hx2)
  have hW0 : Ext ((w2.alloc (.cells #[.slice ca (fCompact f).length cc] 26)).alloc (.cells #[.slice none 0 0] 89)) (((w2.alloc (.cells #[.slice ca (fCompact f).length cc] 26)).alloc (.cells #[.slice none 0 0] 89)).alloc (.cells #[.slice (some ⟨w2.heap.size, 0, none⟩) 1 1, .slice (some ⟨w2.heap.size + 1, 0, none⟩) 1 1, .slice none 0 0] 45)) := (Ext.refl _).alloc _
  have hO0 := OutAt.new ((w2.alloc (.cells #[.slice ca (fCompact f).length cc] 26)).alloc (.cells #[.slice none 0 0] 89)) (.slice (some ⟨w2.heap.size, 0, none⟩) 1 1) (.slice (some ⟨w2.heap.size + 1, 0, none⟩) 1 1) (.slice none 0 0) 45
  have hs0 : (((w2.alloc (.cells #[.slice ca (fCompact f).length cc] 26)).alloc (.cells #[.slice none 0 0] 89)).alloc (.cells #[.slice (some ⟨w2.heap.size, 0, none⟩) 1 1, .slice (some ⟨w2.heap.size + 1, 0, none⟩) 1 1, .slice none 0 0] 45)).heap.size = w2.heap.size + 1 + 1 + 1 := by simp
  rw [hsx] at hO0
  have HO0 := Lib.hid hO0
  have HXW : Hid (∀ w', Below (w2.heap.size + 1 + 1) (((w2.alloc (.cells #[.slice ca (fCompact f).length cc] 26)).alloc (.cells #[.slice none 0 0] 89)).alloc (.cells #[.slice (some ⟨w2.heap.size, 0, none⟩) 1 1, .slice (some ⟨w2.heap.size + 1, 0, none⟩) 1 1, .slice none 0 0] 45)) w' → Ext ((w2.alloc (.cells #[.slice ca (fCompact f).length cc] 26)).alloc (.cells #[.slice none 0 0] 89)) w') := Lib.hid fun w' e => Below.trans hW0 (by rw [hsx]; exact e)
  have HSX := Lib.hid hsx
  have HS0 := Lib.hid hs0
  have hws : w.heap.size + 1 ≤ w2.heap.size := by
    rw [← HSZ.out]; exact HE2.out.size
  clear hx2 hW0 hO0 hsx hs0
  generalize ((w2.alloc (.cells #[.slice ca (fCompact f).length cc] 26)).alloc (.cells #[.slice none 0 0] 89)).alloc (.cells #[.slice (some ⟨w2.heap.size, 0, none⟩) 1 1, .slice (some ⟨w2.heap.size + 1, 0, none⟩) 1 1, .slice none 0 0] 45) = W0 at *
  generalize ((w2.alloc (.cells #[.slice ca (fCompact f).length cc] 26)).alloc (.cells #[.slice none 0 0] 89)) = wX at *
  go_loopw [28] (fun i wr => (i = .int .i64 0 ∧ wr = W0) ∨ (i = .int .i64 1 ∧ ∃ v q, Hid (OutAt wr (w2.heap.size + 1 + 1) (.slice (some ⟨w2.heap.size, 0, none⟩) 1 1) (.slice (some ⟨w2.heap.size + 1, 0, none⟩) 1 1) v) ∧ Hid (wr.ownsRow (w2.heap.size + 1 + 1 + 1) 22 1 v 1 [.slice (some ⟨q, 0, none⟩) 1 1]) ∧ Hid (wr.cell? ⟨q, 0, none⟩ = some (.int .u64 1)) ∧ w.heap.size < q ∧ Hid (Below (w2.heap.size + 1 + 1) W0 wr))) (fun i _ => 1 - (RowKit.intOf i).toNat)
  case atStart => exact .inl ⟨rfl, rfl⟩
  case round =>
    rcases hrel with ⟨rfl, rfl⟩ | ⟨rfl, v, q, HO1, HW1, HQ1, hq1, HB1⟩
    · obtain ⟨o0, o1, o2, ofz⟩ := HO0.out
      have hol := HO0.out.lt
      have hfz := ofz 2
      have hcn := cell_one_new1 wr (.cells #[.int .u64 1] 40) (.slice (some ⟨wr.heap.size, 0, none⟩) 1 1) 22
      have HCN := Lib.hid hcn
      have HA2 : Hid (Ext wr ((wr.alloc (.cells #[.int .u64 1] 40)).alloc (.cells #[.slice (some ⟨wr.heap.size, 0, none⟩) 1 1] 22))) := Lib.hid (((Ext.refl wr).alloc _).alloc _)
      have HONE : Hid (∀ u ∈ [Value.slice (some ⟨wr.heap.size, 0, none⟩) 1 1], u.oneCell' = true) := fun u hu => by
        rcases List.mem_singleton.1 hu with rfl
        rfl
      have HC1 : Hid (((wr.alloc (.cells #[.int .u64 1] 40)).alloc (.cells #[.slice (some ⟨wr.heap.size, 0, none⟩) 1 1] 22)).cell? ⟨wr.heap.size, 0, none⟩ = some (.int .u64 1)) := Lib.hid (((Ext.refl (wr.alloc (.cells #[.int .u64 1] 40))).alloc _).cell (by simp))
      clear ofz hcn
      go_wp2_with (at_builtin; refine wpList_append_lies _ rfl _ _ 23 rfl (w2.heap.size + 1 + 1 + 1) 22 i2 _ 1 24 Tryd.underlying23 hj1 hy0 hy1 hy2 rfl (by decide) (.slice none 0 0) 0 [] rfl (World.ownsRow_nil _ _ _ _) ⟨wr.heap.size + 1, 0, none⟩ 1 1 [.slice (some ⟨wr.heap.size, 0, none⟩) 1 1] rfl rfl HCN.out HONE.out (by decide) (by unfold maxLen; omega) (by omega) (by simp; omega) (wr.heap.size + 1 + 1) (by simp) ?_; intro gx cap W1 hown hgrow hat hlt2; obtain ⟨p0, p1, p2, pfz⟩ := (HO0.out.ext HA2.out).keep (hgrow.block _ (by simp; omega) (by simp [Value.ownBlock])); have pf := pfz 2; have hol1 := World.block_lt_of_cell? _ _ p0; have HP : Hid (OutAt W1 _ _ _ _) := Lib.hid ⟨p0, p1, p2, pfz⟩; clear pfz; have HOWN := Lib.hid hown; have HGROW := Lib.hid hgrow; clear hown hgrow hat)
      have hBel : Below (w2.heap.size + 1 + 1) wr W1 := Below.grown (Below.mono HA2.out (by omega)) HGROW.out (by simp <;> omega) (fun k hk => by simp [Value.ownBlock] at hk)
      have hc1 : W1.cell? ⟨wr.heap.size, 0, none⟩ = some (.int .u64 1) := (World.cell?_of_block (HGROW.out.block wr.heap.size (by simp <;> omega) (by simp [Value.ownBlock]))).trans HC1.out
      have HBel := Lib.hid hBel
      have HC2 := Lib.hid hc1
      clear hBel hc1
      go_roundw
      case rel => exact .inr ⟨rfl, _, wr.heap.size, Lib.hid (HP.out.set2 _), Lib.hid (setOther HOWN.out (by omega)), Lib.hid ((World.cell?_setCell_other _ _ _ _ (by simp <;> omega)).trans HC2.out), by omega, Lib.hid (HBel.out.setCell (by simp) _)⟩
      case measure => simp [RowKit.intOf]
    · obtain ⟨ra, rc, hv, -⟩ := RR.one1 HW1.out HQ1.out
      subst hv
      obtain ⟨o0, o1, o2, -⟩ := HO1.out
      have hol := HO1.out.lt
      have HXr := Lib.hid (HXW.out _ HB1.out)
      have HOF := Lib.hid (HORX.out.ext HXr.out)
      obtain ⟨r0, r1, r2, rfz⟩ := HOF.out
      have f0 := rfz 0
      have f1 := rfz 1
      have f2 := rfz 2
      have rl := HOF.out.lt
      have HEW := Lib.hid ((HE.out.trans HX2.out).trans HXr.out)
      clear rfz
      go_wp2_with fail
      have hs1 := HS1.out
      have hs12 := HS12.out
      have hk : ∀ b, b ≠ w.heap.size → (((wr.setCell ⟨w.heap.size, 0, none⟩ (.slice (some ⟨w2.heap.size, 0, none⟩) 1 1)).setCell ⟨w.heap.size, 1, none⟩ (.slice (some ⟨w2.heap.size + 1, 0, none⟩) 1 1)).setCell ⟨w.heap.size, 2, none⟩ (.slice ra 1 rc)).heap[b]? = wr.heap[b]? := fun b hb => by
        rw [heap_setCell_other _ ⟨w.heap.size, 2, none⟩ b _ (by simpa using hb), heap_setCell_other _ ⟨w.heap.size, 1, none⟩ b _ (by simpa using hb), heap_setCell_other _ ⟨w.heap.size, 0, none⟩ b _ (by simpa using hb)]
      have hkx : ∀ b, b ≠ w.heap.size → b < wX.heap.size → (((wr.setCell ⟨w.heap.size, 0, none⟩ (.slice (some ⟨w2.heap.size, 0, none⟩) 1 1)).setCell ⟨w.heap.size, 1, none⟩ (.slice (some ⟨w2.heap.size + 1, 0, none⟩) 1 1)).setCell ⟨w.heap.size, 2, none⟩ (.slice ra 1 rc)).heap[b]? = wX.heap[b]? := fun b hb hx => (hk b hb).trans (HXr.out.block b hx)
      have hEx : Ext w (((wr.setCell ⟨w.heap.size, 0, none⟩ (.slice (some ⟨w2.heap.size, 0, none⟩) 1 1)).setCell ⟨w.heap.size, 1, none⟩ (.slice (some ⟨w2.heap.size + 1, 0, none⟩) 1 1)).setCell ⟨w.heap.size, 2, none⟩ (.slice ra 1 rc)) := ((HEW.out.setCell (by simp) _).setCell (by simp) _).setCell (by simp) _
      have hsx := HSX.out
      have hRN : RN (((wr.setCell ⟨w.heap.size, 0, none⟩ (.slice (some ⟨w2.heap.size, 0, none⟩) 1 1)).setCell ⟨w.heap.size, 1, none⟩ (.slice (some ⟨w2.heap.size + 1, 0, none⟩) 1 1)).setCell ⟨w.heap.size, 2, none⟩ (.slice ra 1 rc)) ca (fCompact f) := by
        exact HNX.out.keepF HFR.out fun b h1 h2 => hkx b (by omega) h2
      have hcp : (((wr.setCell ⟨w.heap.size, 0, none⟩ (.slice (some ⟨w2.heap.size, 0, none⟩) 1 1)).setCell ⟨w.heap.size, 1, none⟩ (.slice (some ⟨w2.heap.size + 1, 0, none⟩) 1 1)).setCell ⟨w.heap.size, 2, none⟩ (.slice ra 1 rc)).cell? ⟨w2.heap.size, 0, none⟩ = some (.slice ca (fCompact f).length cc) := (World.cell?_of_block (hkx w2.heap.size (by omega) (by omega))).trans HCP.out
      have hcq : (((wr.setCell ⟨w.heap.size, 0, none⟩ (.slice (some ⟨w2.heap.size, 0, none⟩) 1 1)).setCell ⟨w.heap.size, 1, none⟩ (.slice (some ⟨w2.heap.size + 1, 0, none⟩) 1 1)).setCell ⟨w.heap.size, 2, none⟩ (.slice ra 1 rc)).cell? ⟨w2.heap.size + 1, 0, none⟩ = some (.slice none 0 0) := (World.cell?_of_block (hkx (w2.heap.size + 1) (by omega) (by omega))).trans HCQ.out
      have hpre : RNN (((wr.setCell ⟨w.heap.size, 0, none⟩ (.slice (some ⟨w2.heap.size, 0, none⟩) 1 1)).setCell ⟨w.heap.size, 1, none⟩ (.slice (some ⟨w2.heap.size + 1, 0, none⟩) 1 1)).setCell ⟨w.heap.size, 2, none⟩ (.slice ra 1 rc)) (some ⟨w2.heap.size, 0, none⟩) [fCompact f] := ⟨by simp, fun k hk => by
        obtain rfl : k = 0 := by simp at hk; omega
        exact ⟨w2.heap.size, 0, ca, cc, rfl, World.block_lt_of_cell? _ _ hcp, hcp, hRN⟩⟩
      have hpost : RAss (((wr.setCell ⟨w.heap.size, 0, none⟩ (.slice (some ⟨w2.heap.size, 0, none⟩) 1 1)).setCell ⟨w.heap.size, 1, none⟩ (.slice (some ⟨w2.heap.size + 1, 0, none⟩) 1 1)).setCell ⟨w.heap.size, 2, none⟩ (.slice ra 1 rc)) (some ⟨w2.heap.size + 1, 0, none⟩) [[]] := RAss.one hcq
      obtain ⟨ra', rc', hv2, hrr⟩ := RR.one1 (setOther (setOther (setOther HW1.out (b := w.heap.size) (k := 0) (u := .slice (some ⟨w2.heap.size, 0, none⟩) 1 1) (by omega)) (b := w.heap.size) (k := 1) (u := .slice (some ⟨w2.heap.size + 1, 0, none⟩) 1 1) (by omega)) (b := w.heap.size) (k := 2) (u := .slice ra 1 rc) (by omega)) ((World.cell?_of_block (hk q (by omega))).trans HQ1.out)
      simp only [Value.slice.injEq] at hv2
      obtain ⟨rfl, -, rfl⟩ := hv2
      obtain ⟨d0, d1, d2, -⟩ := ((HOF.out.set0 (.slice (some ⟨w2.heap.size, 0, none⟩) 1 1)).set1 (.slice (some ⟨w2.heap.size + 1, 0, none⟩) 1 1)).set2 (.slice ra 1 rc)
      clear hcp hcq hk hkx
      generalize ((wr.setCell ⟨w.heap.size, 0, none⟩ (.slice (some ⟨w2.heap.size, 0, none⟩) 1 1)).setCell ⟨w.heap.size, 1, none⟩ (.slice (some ⟨w2.heap.size + 1, 0, none⟩) 1 1)).setCell ⟨w.heap.size, 2, none⟩ (.slice ra 1 rc) = W2 at *
      refine bodyPost_ret (v := .tuple #[.agg #[.slice (some ⟨w2.heap.size, 0, none⟩) 1 1, .slice (some ⟨w2.heap.size + 1, 0, none⟩) 1 1, .slice ra 1 rc], .int .i64 0]) ?_ rfl ?_
      · rw [results_cell_pb rfl]
        go_simp
      · exact ⟨_, _, _, _, _, _, rfl, ⟨hpre, hpost, hrr⟩, hEx⟩
end Wt

/- Walk: wittingtop.dAwake14. -/
namespace Wt
open Go Go.RowKit Go.Maps Go.Proofs Fm

/-- The example's model, its formula, the model that is left. -/
def m14 : Mo := ⟨2, [1#64], [[3#64, 3#64]]⟩
def f14 : List Nd := fB ⟨3, 0, 0, 0, 0, 0⟩ []
def n14 : Mo := ⟨1, [1#64], [[1#64]]⟩
set_option maxRecDepth 100000 in
theorem t14 : f14.length = 1 ∧ stErr f14 1 8 = 0 ∧ prErr m14 (pub1 f14) = 0 ∧ prK m14 (pub1 f14) 2 = [(0, 0)] ∧ prM m14 (pub1 f14) [(0, 0)] = n14 ∧ upErr m14 f14 = 0 ∧ upM m14 f14 = n14 ∧ upL m14 f14 = [0] ∧ frIn n14 6 = true ∧ frIn m14 6 = true := by
  refine ⟨?_, ?_, ?_, ?_, ?_, ?_, ?_, ?_, ?_, ?_⟩ <;> decide +kernel
def Ret14F (e : Ending) (w w' : World) : Prop := ∃ a c, e = .returned (.slice a 1 c) ∧ RN w' a f14 ∧ Ext w w'
def Ret14P (e : Ending) (w w' : World) : Prop := ∃ pa qa ra pc qc rc, e = .returned (.tuple #[.agg #[.slice pa 1 pc, .slice qa 1 qc, .slice ra 1 rc], .int .i64 0]) ∧ RAc w' pa qa ra (pub1 f14) ∧ Ext w w'
def Ret14U (e : Ending) (w w' : World) : Prop := ∃ va ra la vc rc lc, e = .returned (.tuple #[.agg #[.int .i64 1, .slice va 1 vc, .slice ra 1 rc], .slice la 1 lc, .int .i64 0]) ∧ RM w' va ra n14 ∧ Ext w w'
def Ret14A (e : Ending) (w w' : World) : Prop := ∃ va ra la vc rc lc, e = .returned (.tuple #[.agg #[.int .i64 1, .slice va 1 vc, .slice ra 1 rc], .slice la 1 lc, .int .i64 0]) ∧ (∀ w'', Agree w.heap.size w' w'' → RM w'' va ra n14) ∧ Ext w w'
theorem agree_set3T {B b : Nat} (w : World) (h : b < B) (x y z : Value) : Agree B w (((w.setCell ⟨b, 0, none⟩ x).setCell ⟨b, 1, none⟩ y).setCell ⟨b, 2, none⟩ z) := fun k hk _ => by
  rw [heap_setCell_other _ ⟨b, 2, none⟩ k _ (by simp; omega), heap_setCell_other _ ⟨b, 1, none⟩ k _ (by simp; omega), heap_setCell_other _ ⟨b, 0, none⟩ k _ (by simp; omega)]
theorem ext_set3T {a w : World} (h : Ext a w) {b : Nat} (hb : a.heap.size ≤ b) (x y z : Value) : Ext a (((w.setCell ⟨b, 0, none⟩ x).setCell ⟨b, 1, none⟩ y).setCell ⟨b, 2, none⟩ z) :=
  ((h.setCell hb x).setCell hb y).setCell hb z
theorem agree_ofExtT {B : Nat} {w' w'' : World} (e : Ext w' w'') : Agree B w' w'' := fun k _ hk => e.block k hk
theorem m14_lit (w : World) : RM (((w.alloc (.cells #[.int .u64 1] 40)).alloc (.cells #[.int .u64 3, .int .u64 3] 40)).alloc (.cells #[.slice (some ⟨w.heap.size + 1, 0, none⟩) 2 2] 22)) (some ⟨w.heap.size, 0, none⟩) (some ⟨w.heap.size + 1 + 1, 0, none⟩) m14 := by
  have h1 := (RU.lit w [1#64] #[.int .u64 1] 40 rfl (by simp)).ext (((Ext.refl _).alloc (.cells #[.int .u64 3, .int .u64 3] 40)).alloc (.cells #[.slice (some ⟨w.heap.size + 1, 0, none⟩) 2 2] 22))
  have h2 := (RU.lit (w.alloc (.cells #[.int .u64 1] 40)) [3#64, 3#64] #[.int .u64 3, .int .u64 3] 40 rfl (by simp)).ext ((Ext.refl _).alloc (.cells #[.slice (some ⟨w.heap.size + 1, 0, none⟩) 2 2] 22))
  rw [show (w.alloc (.cells #[.int .u64 1] 40)).heap.size = w.heap.size + 1 by simp] at h2
  refine ⟨h1, by simp [m14], fun k hk => ?_⟩
  obtain rfl : k = 0 := by simp [m14] at hk; omega
  have h3 : (((w.alloc (.cells #[.int .u64 1] 40)).alloc (.cells #[.int .u64 3, .int .u64 3] 40)).alloc (.cells #[.slice (some ⟨w.heap.size + 1, 0, none⟩) 2 2] 22)).cell? ⟨((w.alloc (.cells #[.int .u64 1] 40)).alloc (.cells #[.int .u64 3, .int .u64 3] 40)).heap.size, 0, none⟩ = some (.slice (some ⟨w.heap.size + 1, 0, none⟩) 2 2) := (Bx1.new ((w.alloc (.cells #[.int .u64 1] 40)).alloc (.cells #[.int .u64 3, .int .u64 3] 40)) (.slice (some ⟨w.heap.size + 1, 0, none⟩) 2 2) 22).c
  rw [show ((w.alloc (.cells #[.int .u64 1] 40)).alloc (.cells #[.int .u64 3, .int .u64 3] 40)).heap.size = w.heap.size + 1 + 1 by simp] at h3
  exact ⟨w.heap.size + 1 + 1, 0, some ⟨w.heap.size + 1, 0, none⟩, 2, rfl, h3, h2⟩
set_option maxRecDepth 20000 in
set_option maxHeartbeats 8000000 in
theorem awake14_any (w : World) (hT : Tab w) : Calls Tryd.prog 19 #[] w fun e w' => e = .returned (.bool true) ∧ Ext w w' := by
  have XF : Hid (∀ W, Calls Tryd.prog 25 #[.int .i64 0] W fun e w' => Ret14F e W w') := Lib.hid fun W => cFact_any 0 W
  have XP : Hid (∀ W fa fc, RN W fa f14 → Calls Tryd.prog 51 #[.int .i64 1, .slice fa 1 fc] W fun e w' => Ret14P e W w') := Lib.hid fun W fa fc h => public1_any fa fc f14 W h t14.2.1
  have XU : Hid (∀ W va ra pa qa sa vc rc pc qc sc, RM W va ra m14 → RAc W pa qa sa (pub1 f14) → Calls Tryd.prog 24 #[.agg #[.int .i64 2, .slice va 1 vc, .slice ra 1 rc], .agg #[.slice pa 1 pc, .slice qa 1 qc, .slice sa 1 sc]] W fun e w' => Ret14U e W w') := Lib.hid fun W va ra pa qa sa vc rc pc qc sc hm ha => by
    have h := pupdate_any m14 (pub1 f14) va ra pa qa sa vc rc pc qc sc W hm ha t14.2.2.1 (by rw [show m14.worlds.toNat = 2 from rfl, t14.2.2.2.1]; decide)
    rw [show m14.worlds.toNat = 2 from rfl, t14.2.2.2.1] at h
    refine h.mono fun e w' h2 => ?_
    obtain ⟨h2 | h2, hE⟩ := h2
    · exact absurd h2.1 (by decide)
    · obtain ⟨-, va, ra, la, vc, rc, lc, rfl, hm⟩ := h2
      rw [t14.2.2.2.2.1] at hm
      exact ⟨va, ra, la, vc, rc, lc, rfl, hm, hE⟩
  have XA : Hid (∀ W va ra vc rc fa fc, Tab W → RM W va ra m14 → RN W fa f14 → Calls Tryd.prog 20 #[.agg #[.int .i64 2, .slice va 1 vc, .slice ra 1 rc], .slice fa 1 fc] W fun e w' => Ret14A e W w') := Lib.hid fun W va ra vc rc fa fc hT hm hf => by
    have h := update_any m14 va ra vc rc fa fc f14 W hm hf hT
    rw [t14.2.2.2.2.2.1, t14.2.2.2.2.2.2.1, t14.2.2.2.2.2.2.2.1] at h
    refine h.mono fun e w' h2 => ?_
    obtain ⟨va, ra, la, vc, rc, lc, rfl, h3, hE⟩ := h2.r
    exact ⟨va, ra, la, vc, rc, lc, rfl, fun w'' ha => (h3 w'' ha).1, hE⟩
  have XS : Hid (∀ W va ra vb rb vc rc vd rd, RM W va ra n14 → RM W vb rb n14 → Calls Tryd.prog 52 #[.agg #[.int .i64 1, .slice va 1 vc, .slice ra 1 rc], .agg #[.int .i64 1, .slice vb 1 vd, .slice rb 1 rd]] W fun e w' => e = .returned (.bool true) ∧ Ext W w') := Lib.hid fun W va ra vb rb vc rc vd rd h1 h2 => sameM_any n14 va ra vb rb vc rc vd rd W h1 h2
  have XI : Hid (∀ W va ra vc rc, Tab W → RM W va ra n14 → Calls Tryd.prog 18 #[.agg #[.int .i64 1, .slice va 1 vc, .slice ra 1 rc], .int .i64 6] W fun e w' => e = .returned (.bool true) ∧ Ext W w') := Lib.hid fun W va ra vc rc hT h => by
    have h1 := frInA_any 6 n14 va ra vc rc W hT h
    rw [t14.2.2.2.2.2.2.2.2.1] at h1; exact h1
  have XJ : Hid (∀ W va ra vc rc, Tab W → RM W va ra m14 → Calls Tryd.prog 18 #[.agg #[.int .i64 2, .slice va 1 vc, .slice ra 1 rc], .int .i64 6] W fun e w' => e = .returned (.bool true) ∧ Ext W w') := Lib.hid fun W va ra vc rc hT h => by
    have h1 := frInA_any 6 m14 va ra vc rc W hT h
    rw [t14.2.2.2.2.2.2.2.2.2] at h1; exact h1
  have HT := Lib.hid hT
  clear hT
  go_enter Tryd.func19, Tryd.ntmps19
  go_wp2_with fail
  have hm0 := m14_lit w
  have hx0 : Ext w (((w.alloc (.cells #[.int .u64 1] 40)).alloc (.cells #[.int .u64 3, .int .u64 3] 40)).alloc (.cells #[.slice (some ⟨w.heap.size + 1, 0, none⟩) 2 2] 22)) := (((Ext.refl w).alloc _).alloc _).alloc _
  have hs0 : (((w.alloc (.cells #[.int .u64 1] 40)).alloc (.cells #[.int .u64 3, .int .u64 3] 40)).alloc (.cells #[.slice (some ⟨w.heap.size + 1, 0, none⟩) 2 2] 22)).heap.size = w.heap.size + 1 + 1 + 1 := by simp
  have hbx := OutAt.new (((w.alloc (.cells #[.int .u64 1] 40)).alloc (.cells #[.int .u64 3, .int .u64 3] 40)).alloc (.cells #[.slice (some ⟨w.heap.size + 1, 0, none⟩) 2 2] 22)) (.int .i64 2) (.slice (some ⟨w.heap.size, 0, none⟩) 1 1) (.slice (some ⟨w.heap.size + 1 + 1, 0, none⟩) 1 1) 25
  rw [hs0] at hbx
  have hx1 : Ext (((w.alloc (.cells #[.int .u64 1] 40)).alloc (.cells #[.int .u64 3, .int .u64 3] 40)).alloc (.cells #[.slice (some ⟨w.heap.size + 1, 0, none⟩) 2 2] 22)) ((((w.alloc (.cells #[.int .u64 1] 40)).alloc (.cells #[.int .u64 3, .int .u64 3] 40)).alloc (.cells #[.slice (some ⟨w.heap.size + 1, 0, none⟩) 2 2] 22)).alloc (.cells #[.int .i64 2, .slice (some ⟨w.heap.size, 0, none⟩) 1 1, .slice (some ⟨w.heap.size + 1 + 1, 0, none⟩) 1 1] 25)) := (Ext.refl _).alloc _
  have HM := Lib.hid (hm0.ext hx1)
  have HE := Lib.hid (hx0.trans hx1)
  have HB := Lib.hid hbx
  have HT1 := Lib.hid (HT.out.ext (hx0.trans hx1))
  clear hm0 hx0 hs0 hbx hx1
  generalize (((w.alloc (.cells #[.int .u64 1] 40)).alloc (.cells #[.int .u64 3, .int .u64 3] 40)).alloc (.cells #[.slice (some ⟨w.heap.size + 1, 0, none⟩) 2 2] 22)).alloc (.cells #[.int .i64 2, .slice (some ⟨w.heap.size, 0, none⟩) 1 1, .slice (some ⟨w.heap.size + 1 + 1, 0, none⟩) 1 1] 25) = w0 at *
  refine (XF.out _).mono ?_
  rintro _ w1 ⟨fa, fc, rfl, hf1, hE1⟩
  have HF1 := Lib.hid hf1
  have HE1 := Lib.hid hE1
  clear hf1 hE1
  dsimp only
  go_wp2_with fail
  refine (XP.out _ _ _ HF1.out).mono ?_
  rintro _ w2 ⟨pa, qa, sa, pc, qc, sc, rfl, ha2, hE2⟩
  have hy : Ext w2 (w2.alloc (.cells #[.slice pa 1 pc, .slice qa 1 qc, .slice sa 1 sc] 45)) := (Ext.refl _).alloc _
  have HA := Lib.hid (ha2.ext hy)
  have HE2 := Lib.hid (HE1.out.trans (hE2.trans hy))
  have HBA := Lib.hid (OutAt.new w2 (.slice pa 1 pc) (.slice qa 1 qc) (.slice sa 1 sc) 45)
  have HS2 : Hid (w.heap.size + 1 + 1 + 1 < w2.heap.size) := Lib.hid (HB.out.ext (HE1.out.trans hE2)).lt
  obtain ⟨m0, m1, m2, -⟩ := HB.out.ext (HE1.out.trans (hE2.trans hy))
  have ml := World.block_lt_of_cell? _ _ m0
  dsimp only at ml
  clear ha2 hE2 hy
  have hal : w2.heap.size < (w2.alloc (.cells #[.slice pa 1 pc, .slice qa 1 qc, .slice sa 1 sc] 45)).heap.size := HBA.out.lt
  obtain ⟨a0, a1, a2, -⟩ := HBA.out
  dsimp only
  go_wp2_with fail
  refine (XU.out _ _ _ _ _ _ _ _ _ _ _ (HM.out.ext HE2.out) HA.out).mono ?_
  rintro _ w4 ⟨va4, ra4, la4, vc4, rc4, lc4, rfl, hm4, hE4⟩
  have hy : Ext w4 (w4.alloc (.cells #[.int .i64 1, .slice va4 1 vc4, .slice ra4 1 rc4] 25)) := (Ext.refl _).alloc _
  have HM4 := Lib.hid (hm4.ext hy)
  have HE4 := Lib.hid (HE2.out.trans (hE4.trans hy))
  have HB4 := Lib.hid (OutAt.new w4 (.int .i64 1) (.slice va4 1 vc4) (.slice ra4 1 rc4) 25)
  have HS4 : Hid (w.heap.size + 1 + 1 + 1 < w4.heap.size) := Lib.hid (HB.out.ext (HE2.out.trans hE4)).lt
  clear a0 a1 a2 hal m0 m1 m2 ml hm4 hE4 hy
  have hs5 : w4.heap.size < (w4.alloc (.cells #[.int .i64 1, .slice va4 1 vc4, .slice ra4 1 rc4] 25)).heap.size := HB4.out.lt
  have HS5 := Lib.hid hs5
  clear hs5
  dsimp only
  go_upto_region 4 with fail
  generalize w4.alloc (.cells #[.int .i64 1, .slice va4 1 vc4, .slice ra4 1 rc4] 25) = w5 at *
  have HB5 := Lib.hid (HB.out.ext HE4.out)
  have HM5 := Lib.hid (HM.out.ext HE4.out)
  have HT5 := Lib.hid (HT1.out.ext HE4.out)
  have HK : Hid (∀ w', Ext w5 w' → w'.cell? ⟨w.heap.size + 1 + 1 + 1, 0, none⟩ = some (.int .i64 2) ∧ w'.cell? ⟨w.heap.size + 1 + 1 + 1, 1, none⟩ = some (.slice (some ⟨w.heap.size, 0, none⟩) 1 1) ∧ w'.cell? ⟨w.heap.size + 1 + 1 + 1, 2, none⟩ = some (.slice (some ⟨w.heap.size + 1 + 1, 0, none⟩) 1 1)) := Lib.hid fun w' e => ⟨(HB5.out.ext e).c0, (HB5.out.ext e).c1, (HB5.out.ext e).c2⟩
  obtain ⟨m0, m1, m2, -⟩ := HB5.out
  have ml := World.block_lt_of_cell? _ _ m0
  dsimp only at ml
  go_cut [7, 8, 9] from 26 to 32 (fun s7 s8 s9 wc => ∃ b va ra la vc rc lc, s7 = .pointer (some ⟨b, 0, none⟩) ∧ s8 = .slice la 1 lc ∧ s9 = .int .i64 0 ∧ Hid (OutAt wc b (.int .i64 1) (.slice va 1 vc) (.slice ra 1 rc)) ∧ Hid (RM wc va ra n14) ∧ Hid (Ext w5 wc))
  case first =>
    go_region_held3 (fun w' => w'.cell? ⟨w.heap.size + 1 + 1 + 1, 0, none⟩ = some (.int .i64 2) ∧ w'.cell? ⟨w.heap.size + 1 + 1 + 1, 1, none⟩ = some (.slice (some ⟨w.heap.size, 0, none⟩) 1 1) ∧ w'.cell? ⟨w.heap.size + 1 + 1 + 1, 2, none⟩ = some (.slice (some ⟨w.heap.size + 1 + 1, 0, none⟩) 1 1)) (first | go_keep | assumption | exact HK.out _ (by assumption) | exact HK.out _ (Ext.refl _).drew | exact HK.out _ (Ext.alloc (by assumption) _) | exact HK.out _ ((Ext.refl _).alloc _).drew | exact HK.out _ (ext_set3T HX11.out HSZ.out.2 _ _ _))
      (first | ((with_reducible refine (XF.out _).mono ?_); rintro _ w10 ⟨a10, c10, rfl, r10, hE10⟩; (first | have hX10 : Ext w5 w10 := (Ext.refl w5).drew.trans hE10 | (have hX10 : Ext w5 w10 := ((Ext.refl w5).alloc (.cells #[.int .i64 0, .slice none 0 0, .slice none 0 0] 25)).drew.trans hE10; have hB : OutAt w10 w5.heap.size (.int .i64 0) (.slice none 0 0) (.slice none 0 0) := (OutAt.new w5 (.int .i64 0) (.slice none 0 0) (.slice none 0 0) 25).ext ((Ext.refl _).drew.trans hE10); have hBl : w5.heap.size < w10.heap.size := hB.lt)); dsimp only) | ((with_reducible refine (XA.out _ _ _ _ _ _ _ (HT5.out.ext (by first | assumption | exact Ext.alloc (by assumption) _)) (HM5.out.ext (by first | assumption | exact Ext.alloc (by assumption) _)) (by first | assumption | exact RN.ext ((Ext.refl _).alloc _) (by assumption))).mono ?_); rintro _ w11 ⟨va11, ra11, la11, vc11, rc11, lc11, rfl, h11, hE11⟩; (first | (have hC : OutAt w11 w10.heap.size (.int .i64 0) (.slice none 0 0) (.slice none 0 0) := (OutAt.new w10 (.int .i64 0) (.slice none 0 0) (.slice none 0 0) 25).ext hE11; have hX11 : Ext w5 w11 := (hX10.alloc (.cells #[.int .i64 0, .slice none 0 0, .slice none 0 0] 25)).trans hE11; have HC := Lib.hid hC; have hCl := hC.lt; obtain ⟨x0, x1, x2, xf⟩ := hC; have f0 := xf 0; have f1 := xf 1; have f2 := xf 2; have HSZ : Hid (w10.heap.size < (w10.alloc (.cells #[.int .i64 0, .slice none 0 0, .slice none 0 0] 25)).heap.size ∧ w5.heap.size ≤ w10.heap.size) := Lib.hid ⟨by simp, hX10.size⟩; clear xf) | (have hC : OutAt w11 w5.heap.size (.int .i64 0) (.slice none 0 0) (.slice none 0 0) := hB.ext hE11; have hX11 : Ext w5 w11 := hX10.trans hE11; have HC := Lib.hid hC; have hCl := hC.lt; obtain ⟨x0, x1, x2, xf⟩ := hC; have f0 := xf 0; have f1 := xf 1; have f2 := xf 2; have HSZ : Hid (w5.heap.size < w10.heap.size ∧ w5.heap.size ≤ w5.heap.size) := Lib.hid ⟨hBl, Nat.le_refl _⟩; clear xf) | have hX11 : Ext w5 w11 := hX10.trans hE11); have HX11 := Lib.hid hX11; have H11 := Lib.hid h11; clear h11; dsimp only) | fail)
    all_goals
      go_wp2_with fail
      go_meet
      case rel => first | exact ⟨_, _, _, _, _, _, _, rfl, rfl, rfl, Lib.hid (((HC.out.set0 _).set1 _).set2 _), Lib.hid (H11.out _ (agree_set3T _ HSZ.out.1 _ _ _)), Lib.hid (ext_set3T HX11.out HSZ.out.2 _ _ _)⟩ | exact ⟨_, _, _, _, _, _, _, rfl, rfl, rfl, Lib.hid (OutAt.new _ _ _ _ _), Lib.hid (H11.out _ (agree_ofExtT ((Ext.refl _).alloc _))), Lib.hid (HX11.out.alloc _)⟩
  case rest =>
    obtain ⟨b, va11, ra11, la11, vc11, rc11, lc11, rfl, rfl, rfl, HC11, HM11, HX11⟩ := hcut
    rename World => w12
    clear m0 m1 m2 ml
    obtain ⟨m0, m1, m2, -⟩ := HB5.out.ext HX11.out
    obtain ⟨n0, n1, n2, -⟩ := HB4.out.ext HX11.out
    obtain ⟨r0, r1, r2, -⟩ := HC11.out
    have ml := World.block_lt_of_cell? _ _ m0
    have nl := World.block_lt_of_cell? _ _ n0
    have rl := World.block_lt_of_cell? _ _ r0
    dsimp only at ml nl rl
    go_wp2_with fail
    refine (XS.out _ _ _ _ _ _ _ _ _ (HM4.out.ext HX11.out) HM11.out).mono ?_
    rintro _ w13 ⟨rfl, hE13⟩
    have HX13 := Lib.hid (HX11.out.trans hE13)
    clear m0 m1 m2 n0 n1 n2 r0 r1 r2 ml nl rl hE13
    obtain ⟨m0, m1, m2, -⟩ := HB5.out.ext HX13.out
    obtain ⟨n0, n1, n2, -⟩ := HB4.out.ext HX13.out
    have ml := World.block_lt_of_cell? _ _ m0
    have nl := World.block_lt_of_cell? _ _ n0
    dsimp only at ml nl ⊢
    go_wp2_with fail
    refine (XI.out _ _ _ _ _ (HT5.out.ext HX13.out) (HM4.out.ext HX13.out)).mono ?_
    rintro _ w14 ⟨rfl, hE14⟩
    have HX14 := Lib.hid (HX13.out.trans hE14)
    clear m0 m1 m2 n0 n1 n2 ml nl hE14
    obtain ⟨m0, m1, m2, -⟩ := HB5.out.ext HX14.out
    have ml := World.block_lt_of_cell? _ _ m0
    dsimp only at ml ⊢
    go_wp2_with fail
    refine (XJ.out _ _ _ _ _ (HT5.out.ext HX14.out) (HM5.out.ext HX14.out)).mono ?_
    rintro _ w15 ⟨rfl, hE15⟩
    dsimp only
    go_wp2_with fail
    go_ret
    exact ⟨rfl, (HE.out.trans HE4.out).trans (HX14.out.trans hE15)⟩
end Wt
