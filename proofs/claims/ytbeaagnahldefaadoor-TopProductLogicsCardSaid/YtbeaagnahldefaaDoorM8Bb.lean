/- Walk: product.Worlds where the arguments have no error. -/
import Derived.Test.YtbeaagnahldefaaDoorM8Ay
import Derived.Test.YtbeaagnahldefaaDoorM8Ax
import Derived.Test.YtbeaagnahldefaaDoorM8Aw
import Derived.Test.YtbeaagnahldefaaDoorM8Aq
namespace Wt
open Go Go.RowKit Go.Maps Go.Proofs Fm

/-- The pairs that a world is in, for the first k events; the pairs of the worlds below. -/
def prRow (M : Mo) (A : Acn) (v k : Nat) : List (Nat × Nat) := (List.range k).filterMap fun e => if bt (holdsOf M (nth A.pre e)) v then some (v, e) else none
def prK (M : Mo) (A : Acn) (v : Nat) : List (Nat × Nat) := (List.range v).flatMap fun u => prRow M A u A.pre.length
theorem prRow_step (M : Mo) (A : Acn) (v k : Nat) : prRow M A v (k + 1) = prRow M A v k ++ if bt (holdsOf M (nth A.pre k)) v then [(v, k)] else [] := by
  unfold prRow
  rw [List.range_succ, List.filterMap_append]
  congr 1
  cases h : bt (holdsOf M (nth A.pre k)) v <;> simp [h]
theorem prK_step (M : Mo) (A : Acn) (v : Nat) : prK M A (v + 1) = prK M A v ++ prRow M A v A.pre.length := by
  unfold prK
  rw [List.range_succ, List.flatMap_append]
  simp
/-- What product.Worlds returns. -/
def RetW (l : List (Nat × Nat)) (e : Ending) (w w' : World) : Prop := ((l = [] ∧ e = .returned (.tuple #[.slice none 0 0, .int .i64 11])) ∨ (l ≠ [] ∧ ∃ a c, e = .returned (.tuple #[.slice a l.length c, .int .i64 0]) ∧ RPe w' a l)) ∧ Ext w w'
theorem prRow_len (M : Mo) (A : Acn) (v k : Nat) : (prRow M A v k).length ≤ k := by
  unfold prRow
  have h := List.length_filterMap_le (fun e => if bt (holdsOf M (nth A.pre e)) v then some (v, e) else none) (List.range k)
  simpa using h
theorem prK_len (M : Mo) (A : Acn) : ∀ v, (prK M A v).length ≤ v * A.pre.length
  | 0 => by simp [prK]
  | v + 1 => by
    rw [prK_step, List.length_append, Nat.succ_mul]
    have h1 := prK_len M A v
    have h2 := prRow_len M A v A.pre.length
    omega
set_option maxRecDepth 20000 in
set_option maxHeartbeats 4000000 in
theorem worlds_ok (M : Mo) (A : Acn) (va ra pa qa sa : Option Addr) (vc rc pc qc sc : Nat) (w : World) (hm : RM w va ra M) (ha : RAc w pa qa sa A) (he : prErr M A = 0) :
    Calls Tryd.prog 62 #[.agg #[.int .i64 M.worlds, .slice va M.val.length vc, .slice ra M.rel.length rc], .agg #[.slice pa A.pre.length pc, .slice qa A.post.length qc, .slice sa A.rel.length sc]] w fun e w' => RetW (prK M A M.worlds.toNat) e w w' := by
  have hE1 : Ext w (w.alloc (.cells #[.int .i64 M.worlds, .slice va M.val.length vc, .slice ra M.rel.length rc] 25)) := (Ext.refl w).alloc _
  have hE2 : Ext (w.alloc (.cells #[.int .i64 M.worlds, .slice va M.val.length vc, .slice ra M.rel.length rc] 25)) ((w.alloc (.cells #[.int .i64 M.worlds, .slice va M.val.length vc, .slice ra M.rel.length rc] 25)).alloc (.cells #[.slice pa A.pre.length pc, .slice qa A.post.length qc, .slice sa A.rel.length sc] 45)) := (Ext.refl _).alloc _
  have HOM := Lib.hid ((OutAt.new w (.int .i64 M.worlds) (.slice va M.val.length vc) (.slice ra M.rel.length rc) 25).ext hE2)
  have HOA := Lib.hid (OutAt.new1 w (.cells #[.int .i64 M.worlds, .slice va M.val.length vc, .slice ra M.rel.length rc] 25) (.slice pa A.pre.length pc) (.slice qa A.post.length qc) (.slice sa A.rel.length sc) 45)
  have HE := Lib.hid (hE1.trans hE2)
  have HM := Lib.hid (hm.ext (hE1.trans hE2))
  have HA := Lib.hid (ha.ext (hE1.trans hE2))
  have hvl := hm.val.len
  have hrl := hm.rel.len
  have h1 : moCheck M = 0 := by
    by_cases h : moCheck M = 0
    · exact h
    · unfold prErr at he; rw [if_pos h] at he; exact absurd he h
  have h2 : acErr A M.rel.length M.val.length = 0 := by unfold prErr at he; rwa [if_neg (by simp [h1])] at he
  have hmc := modelCheck_any M va ra vc rc _ (hm.ext (hE1.trans hE2))
  rw [h1] at hmc
  have HMC := Lib.hid hmc
  obtain ⟨N, hmo⟩ := moCheck_ok h1
  have HWN := Lib.hid hmo.worlds
  rw [show M.worlds.toNat = N by rw [hmo.worlds]; simp]
  have hN1 := hmo.one
  have hN64 := hmo.most
  have hok := acErr_ok h2
  have hp1 := hok.p1
  have hp8 := hok.p8
  have HRQ : Hid (∀ k, k < A.pre.length → reqErr M (nth A.pre k) = 0) := Lib.hid fun k hk => by rw [reqErr_st M _ h1]; exact hok.pre k hk
  have HAC : Hid (∀ W, Ext ((w.alloc (.cells #[.int .i64 M.worlds, .slice va M.val.length vc, .slice ra M.rel.length rc] 25)).alloc (.cells #[.slice pa A.pre.length pc, .slice qa A.post.length qc, .slice sa A.rel.length sc] 45)) W → Calls Tryd.prog 22 #[.agg #[.slice pa A.pre.length pc, .slice qa A.post.length qc, .slice sa A.rel.length sc], .int .i64 (M.rel.length : Int), .int .i64 (M.val.length : Int)] W fun e w' => e = .returned (.int .i64 0) ∧ Ext W w') := Lib.hid fun W e => by
    have h := acheck_any A pa qa sa pc qc sc M.rel.length M.val.length W (HA.out.ext e)
    rw [h2] at h
    exact h
  clear hm ha hE1 hE2 h1 h2 hmc hok he hmo
  obtain ⟨m0, m1, m2, -⟩ := HOM.out
  have ml := World.block_lt_of_cell? _ _ m0
  dsimp only at ml
  go_enter Tryd.func62, Tryd.ntmps62
  go_wp2_with fail
  generalize (w.alloc (.cells #[.int .i64 M.worlds, .slice va M.val.length vc, .slice ra M.rel.length rc] 25)).alloc (.cells #[.slice pa A.pre.length pc, .slice qa A.post.length qc, .slice sa A.rel.length sc] 45) = w2 at *
  go_step3
  go_wp2_with fail
  refine HMC.out.mono ?_
  rintro _ w3 ⟨rfl, hE3⟩
  have HE3 := Lib.hid hE3
  clear m0 m1 m2 ml HMC
  obtain ⟨m0, m1, m2, -⟩ := HOM.out.ext hE3
  obtain ⟨a0, a1, a2, -⟩ := HOA.out.ext hE3
  have ml := World.block_lt_of_cell? _ _ m0
  have al := World.block_lt_of_cell? _ _ a0
  clear hE3
  dsimp only at ml al ⊢
  go_wp2_with fail
  refine (HAC.out _ HE3.out).mono ?_
  rintro _ w4 ⟨rfl, hE4⟩
  have HE4 := Lib.hid (HE3.out.trans hE4)
  clear m0 m1 m2 ml a0 a1 a2 al hE4
  obtain ⟨a0, a1, a2, -⟩ := HOA.out.ext HE4.out
  have al := World.block_lt_of_cell? _ _ a0
  have mk1 := fun (w : World) => run_make_row' (P := Tryd.prog) 22 40 (.int .u64 0) 8 Tryd.underlying22 u64_info rfl .i64 .i64 A.pre.length (by omega) (by omega) w
  dsimp only at al ⊢
  go_wp2_with fail
  clear mk1 a0 a1 a2 al
  have hG := OG.made (enc := uv) (T := 40) (base := w4.heap.size) w4 A.pre.length 0#64 (Nat.le_refl _) (by omega)
  have hE5 : Ext w4 (w4.alloc (.cells (madeCells #[.int .u64 0] A.pre.length) 40)) := (Ext.refl _).alloc _
  rw [← psL_zero M A] at hG
  have HG := Lib.hid hG
  have HE5 := Lib.hid hE5
  clear hG hE5
  change Hid (OG (w4.alloc (.cells (madeCells #[.int .u64 0] A.pre.length) 40)) w4.heap.size 40 uv w4.heap.size A.pre.length A.pre.length (psL M A 0)) at HG
  generalize w4.alloc (.cells (madeCells #[.int .u64 0] A.pre.length) 40) = w5 at *
  go_loopw [40] (fun i wr => ∃ k : Nat, k ≤ A.pre.length ∧ i = .int .i64 (k : Int) ∧ Hid (Ext w4 wr) ∧ Hid (OG wr w4.heap.size 40 uv w4.heap.size A.pre.length A.pre.length (psL M A k))) (fun i _ => A.pre.length - (RowKit.intOf i).toNat)
  case atStart => exact ⟨0, Nat.zero_le _, rfl, HE5, HG⟩
  case round =>
    obtain ⟨k, hk, rfl, HX, HR⟩ := hrel
    by_cases hkl : k < A.pre.length
    · have HX4 := Lib.hid (HE4.out.trans HX.out)
      obtain ⟨b1, f1, a1, c1, h1, hb1, hc1, hn1⟩ := (HA.out.pre.ext HX4.out).get k hkl
      obtain ⟨m0, m1, m2, -⟩ := HOM.out.ext HX4.out
      have ml := World.block_lt_of_cell? _ _ m0
      dsimp only at ml
      subst h1
      have hho := holds_any M va ra vc rc a1 c1 (nth A.pre k) wr (HM.out.ext HX4.out) hn1
      rw [HRQ.out k hkl] at hho
      have HHO := Lib.hid hho
      have HST := Lib.hid (psL_step M A (k := k))
      clear hho hn1
      generalize holdsOf M (nth A.pre k) = S at *
      generalize nth A.pre k = f at *
      go_wp2_with fail
      refine HHO.out.mono ?_
      rintro _ w6 ⟨rfl, hE6⟩
      have HR6 := Lib.hid (HR.out.ext hE6)
      have HX6 := Lib.hid (HX.out.trans hE6)
      clear m0 m1 m2 ml hc1 hb1 hE6
      have hrc := HR6.out.cell hkl
      have hrf := HR6.out.frozen k
      have hrl := HR6.out.lt
      change w6.cell? ⟨w4.heap.size, k, none⟩ = some (.int .u64 (un (nth (psL M A k) k))) at hrc
      dsimp only
      go_wp2_with fail
      go_roundw
      case rel => exact ⟨k + 1, hkl, by go_num, Lib.hid (HX6.out.setCell (by simp) _), Lib.hid (by rw [← HST.out]; exact HR6.out.set k S)⟩
      case measure => simp [RowKit.intOf]; omega
    · obtain rfl : k = A.pre.length := by omega
      have HRN : Hid (∀ e, e < A.pre.length → nth (psL M A A.pre.length) e = holdsOf M (nth A.pre e)) := Lib.hid fun e he => by rw [psL_nth _ _ _ he, if_pos he]
      have HKL : Hid (∀ v e, v ≤ N → e ≤ A.pre.length → (prK M A v ++ prRow M A v e).length ≤ 600) := Lib.hid fun v e hv he => by
        have h1 := prK_len M A v
        have h2 := prRow_len M A v e
        have h3 : v * A.pre.length ≤ 64 * 8 := Nat.mul_le_mul (by omega) hp8
        rw [List.length_append]
        omega
      have HX4 := Lib.hid (HE4.out.trans HX.out)
      clear hk hkl HE5 HG HX
      go_wp2_with fail
      go_step3
      rename World => w7
      go_wp2_with fail
      have HV0 := Lib.hid (PrV.new w7)
      go_loopw [13, 14] (fun t i wr => ∃ v : Nat, v ≤ N ∧ i = .int .i64 (v : Int) ∧ Hid (PrV w7 (prK M A v) t wr)) (fun _ i _ => N + 1 - (RowKit.intOf i).toNat)
      case atStart => exact ⟨0, Nat.zero_le _, rfl, HV0⟩
      case round =>
        obtain ⟨v, hv, rfl, HP⟩ := hrel
        by_cases hvN : v < N
        · have hv64 : v < 64 := by omega
          have hq1 : ((v : Int) == (N : Int)) = false := by rw [beq_eq_false_iff_ne]; omega
          go_wp2_with fail
          go_loopw [13, 63] (fun t i wz => ∃ e : Nat, e ≤ A.pre.length ∧ i = .int .i64 (e : Int) ∧ Hid (PrV w7 (prK M A v ++ prRow M A v e) t wz)) (fun _ i _ => A.pre.length - (RowKit.intOf i).toNat)
          case atStart => exact ⟨0, Nat.zero_le _, rfl, Lib.hid (by rw [show prRow M A v 0 = [] from rfl, List.append_nil]; exact HP.out)⟩
          case round =>
            rename World => wz
            obtain ⟨e, he, rfl, HZ⟩ := hrel
            by_cases hen : e < A.pre.length
            · have hZ7 := HZ.out.e
              obtain ⟨m0, m1, m2, -⟩ := HOM.out.ext (HX4.out.trans hZ7)
              have ml := World.block_lt_of_cell? _ _ m0
              have hrc := (HR.out.ext hZ7).cell hen
              have hrl := (HR.out.ext hZ7).lt
              rw [HRN.out e hen] at hrc
              rw [HWN.out] at m0
              have HST := Lib.hid (prRow_step M A v e)
              have HLL := Lib.hid (HKL.out v e (by omega) he)
              dsimp only at ml
              change wz.cell? ⟨w4.heap.size, e, none⟩ = some (.int .u64 (un (holdsOf M (nth A.pre e)))) at hrc
              clear hZ7
              generalize holdsOf M (nth A.pre e) = S at *
              cases hb : bt S v
              · have HN : Hid (prK M A v ++ prRow M A v (e + 1) = prK M A v ++ prRow M A v e) := Lib.hid (by rw [HST.out, hb]; simp)
                go_wp2_with fail
                go_roundw
                case rel => exact ⟨e + 1, hen, by go_num, Lib.hid (by rw [HN.out]; exact HZ.out)⟩
                case measure => simp [RowKit.intOf]; omega
              · have HN : Hid (prK M A v ++ prRow M A v (e + 1) = (prK M A v ++ prRow M A v e) ++ [(v, e)]) := Lib.hid (by rw [HST.out, hb]; simp)
                have hFl := HLL.out
                have HO : Hid (∀ o, (wz.alloc o).ownsRow w7.heap.size 99 2 u13 (prK M A v ++ prRow M A v e).length (rowE (prK M A v ++ prRow M A v e))) := Lib.hid fun o => (HZ.out.ext' ((Ext.refl wz).alloc o)).own
                have HPA : Hid (∀ o, PrV w7 (prK M A v ++ prRow M A v e) u13 (wz.alloc o)) := Lib.hid fun o => HZ.out.ext' ((Ext.refl wz).alloc o)
                have hsz1 : w7.heap.size ≤ wz.heap.size := HZ.out.e.size
                obtain ⟨i0, hi1, hz0, hz1, hz2⟩ := info_parts paire_info
                generalize prK M A v ++ prRow M A v e = F at *
                go_wp2_with (at_builtin; refine wpList_append_lies _ rfl _ _ 48 rfl w7.heap.size 99 i0 _ 2 16 Tryd.underlying48 hi1 hz0 hz1 hz2 rfl (by decide) u13 F.length _ rfl (HO.out _) ⟨wz.heap.size, 0, none⟩ 1 1 (peCells (v, e)) rfl rfl (paire_news _ _ _ _) (paire_one _) (by decide) (by unfold maxLen; omega) (by omega) (Nat.le_trans hsz1 (by simp)) (wz.heap.size + 1) (by simp) ?_; intro gx cap W1 hown hgrow hat hlt2; have hpush := (HPA.out _).push (p := (v, e)) hown hgrow; have HPU := Lib.hid hpush; clear hpush hown hgrow hat)
                go_roundw
                case rel => exact ⟨e + 1, hen, by go_num, Lib.hid (by rw [HN.out]; exact HPU.out)⟩
                case measure => simp [RowKit.intOf]; omega
            · obtain rfl : e = A.pre.length := by omega
              go_wp2_with fail
              go_roundw
              case rel => exact ⟨v + 1, hvN, by go_num, Lib.hid (by rw [prK_step]; exact HZ.out)⟩
              case measure => simp [RowKit.intOf]; omega
        · obtain rfl : v = N := by omega
          have hq1 : ((v : Int) == (v : Int)) = true := by simp
          have hFl := HKL.out v 0 (Nat.le_refl _) (Nat.zero_le _)
          rw [show prRow M A v 0 = [] from rfl, List.append_nil] at hFl
          obtain ⟨la, lc, hv13, hrp⟩ := HP.out.rp (by omega)
          have hP7 := HP.out.e
          subst hv13
          obtain ⟨m0, m1, m2, -⟩ := HOM.out.ext (HX4.out.trans hP7)
          have ml := World.block_lt_of_cell? _ _ m0
          have hrc := (HR.out.ext hP7).cell (k := 0) (by omega)
          have hrl := (HR.out.ext hP7).lt
          rw [HWN.out] at m0
          have HRP := Lib.hid hrp
          have HEE := Lib.hid (HE.out.trans (HX4.out.trans hP7))
          have h0n : 0 < A.pre.length := by omega
          change wr.cell? ⟨w4.heap.size, 0, none⟩ = some (.int .u64 (un (nth (psL M A A.pre.length) 0))) at hrc
          clear hrp hP7 HP
          generalize nth (psL M A A.pre.length) 0 = S at *
          dsimp only at ml
          by_cases hl : prK M A v = []
          · have hq2 : (((prK M A v).length : Int) == 0) = true := by rw [hl]; rfl
            have HL := Lib.hid hl
            clear hl
            go_wp2_with fail
            go_loopw [13, 63] (fun t i wz => t = .slice la (prK M A v).length lc ∧ i = .int .i64 0 ∧ wz = wr) (fun _ _ _ => 0)
            case atStart => exact ⟨rfl, rfl, rfl⟩
            case round =>
              obtain ⟨rfl, rfl, rfl⟩ := hrel
              go_wp2_with fail
              rw [Exit.noGoto_ret]
              go_ret2
              exact ⟨.inl ⟨HL.out, rfl⟩, HEE.out⟩
          · have hq2 : (((prK M A v).length : Int) == 0) = false := by
              have h : (prK M A v).length ≠ 0 := fun h => hl (List.eq_nil_of_length_eq_zero h)
              rw [beq_eq_false_iff_ne]; omega
            have HL := Lib.hid hl
            clear hl
            go_wp2_with fail
            go_loopw [13, 63] (fun t i wz => t = .slice la (prK M A v).length lc ∧ i = .int .i64 0 ∧ wz = wr) (fun _ _ _ => 0)
            case atStart => exact ⟨rfl, rfl, rfl⟩
            case round =>
              obtain ⟨rfl, rfl, rfl⟩ := hrel
              go_wp2_with fail
              rw [Exit.noGoto_ret]
              go_ret2
              exact ⟨.inr ⟨HL.out, la, lc, rfl, HRP.out⟩, HEE.out⟩
end Wt

/- frames.In at every logic. -/
namespace Wt
open Go Go.RowKit Go.Maps Go.Proofs Fm

theorem propsL_mem {g p : Int} (h : p ∈ propsL g) : p = 1 ∨ p = 2 ∨ p = 4 ∨ p = 5 := by
  unfold propsL at h
  repeat' split at h
  all_goals simp at h
  all_goals omega
theorem hasAt_all {g p : Int} (h : p ∈ propsL g) : HasAt p := fun r a c W hT hr => by
  rcases propsL_mem h with rfl | rfl | rfl | rfl
  · exact has1_any r a c W hT hr
  · exact has2_any r a c W hT hr
  · exact has4_any r a c W hT hr
  · exact has5_any r a c W hT hr
/-- frames.In decides what it says, at every logic. -/
theorem frInA_any (g : Int) (M : Mo) (va ra : Option Addr) (vc rc : Nat) (w : World) (hT : Tab w) (hm : RM w va ra M) :
    Calls Tryd.prog 18 #[.agg #[.int .i64 M.worlds, .slice va M.val.length vc, .slice ra M.rel.length rc], .int .i64 g] w fun e w' => e = .returned (.bool (frIn M g)) ∧ Ext w w' :=
  frIn_any g (fun _ h => hasAt_all h) M va ra vc rc w hT hm
end Wt

/- Plain: products and restrictions of models keep the conditions of logics. -/
namespace Wt
open Go Go.RowKit Go.Proofs Fm

section
variable {r : List (BitVec 64)} {N : Nat} (hl : r.length = N) (hin : ∀ w, w < N → Sub (nth r w) (allW N))
include hl hin
theorem eucB_iff : eucB r = true ↔ ∀ w u z, w < N → u < N → z < N → bt (nth r w) u = true → bt (nth r w) z = true → bt (nth r u) z = true := by
  unfold eucB
  simp only [List.all_eq_true, List.mem_range, hl]
  constructor
  · intro h w u z hw hu hz h1 h2
    have := h w hw u hu
    rw [h1] at this
    simp only [Bool.not_true, Bool.false_or, beq_iff_eq] at this
    refine andNot_zero.1 this z ?_ h2
    by_cases hz64 : z < 64
    · exact hz64
    · rw [show bt (nth r w) z = false from BitVec.getLsbD_of_ge _ _ (by omega)] at h2
      cases h2
  · intro h w hw u hu
    cases hb : bt (nth r w) u
    · rfl
    · simp only [Bool.not_true, Bool.false_or, beq_iff_eq]
      refine andNot_zero.2 fun z hz h2 => ?_
      have := hin w hw z hz h2
      rw [bt_allW] at this
      exact h w u z hw hu (by simp at this; omega) hb h2
end
theorem ok_relT {M : Mo} {N a : Nat} (ok : MoOk M N) (ha : a < M.rel.length) : relCheck (nth M.rel a) = 0 :=
  rel_ok (ok.row _ (nth_mem ha)) ok.most fun v hv => andNot_zero.1 (ok.relIn _ (nth_mem ha) _ (nth_mem (by rw [ok.row _ (nth_mem ha)]; exact hv)))
/-- A relation meets the conditions of a logic other than KD and KD45. -/
structure Meets (g : Int) (r : List (BitVec 64)) : Prop where
  ref : g = 2 ∨ g = 4 ∨ g = 6 → refB r = true
  tra : g = 3 ∨ g = 4 ∨ g = 6 → traB r = true
  euc : g = 6 → eucB r = true
def keptG (g : Int) : Prop := g = 0 ∨ g = 2 ∨ g = 3 ∨ g = 4 ∨ g = 6
theorem frHas_iff {g : Int} (hg : keptG g) {r : List (BitVec 64)} (h : relCheck r = 0) : frHas r g = true ↔ Meets g r := by
  unfold frHas
  rcases hg with rfl | rfl | rfl | rfl | rfl
  · exact ⟨fun _ => ⟨fun h => by omega, fun h => by omega, fun h => by omega⟩, fun _ => by rw [h]; rfl⟩
  · rw [show propsE 2 = 0 from rfl, show propsL 2 = [2] from rfl, h]
    simp only [List.all_cons, List.all_nil, hasB, h]
    exact ⟨fun h => ⟨fun _ => by simpa using h, fun h => by omega, fun h => by omega⟩, fun h => by simpa using h.ref (by omega)⟩
  · rw [show propsE 3 = 0 from rfl, show propsL 3 = [4] from rfl, h]
    simp only [List.all_cons, List.all_nil, hasB, h]
    exact ⟨fun h => ⟨fun h => by omega, fun _ => by simpa using h, fun h => by omega⟩, fun h => by simpa using h.tra (by omega)⟩
  · rw [show propsE 4 = 0 from rfl, show propsL 4 = [2, 4] from rfl, h]
    simp only [List.all_cons, List.all_nil, hasB, h]
    constructor
    · intro h
      have : refB r = true ∧ traB r = true := by simpa using h
      exact ⟨fun _ => this.1, fun _ => this.2, fun h => by omega⟩
    · intro h
      have h1 := h.ref (by omega)
      have h2 := h.tra (by omega)
      simp [h1, h2]
  · rw [show propsE 6 = 0 from rfl, show propsL 6 = [2, 4, 5] from rfl, h]
    simp only [List.all_cons, List.all_nil, hasB, h]
    constructor
    · intro h
      have : refB r = true ∧ traB r = true ∧ eucB r = true := by simpa using h
      exact ⟨fun _ => this.1, fun _ => this.2.1, fun _ => this.2.2⟩
    · intro h
      have h1 := h.ref (by omega)
      have h2 := h.tra (by omega)
      have h3 := h.euc (by omega)
      simp [h1, h2, h3]
theorem propsE_kept {g : Int} (hg : keptG g) : propsE g = 0 := by rcases hg with rfl | rfl | rfl | rfl | rfl <;> rfl
theorem frIn_iff {g : Int} (hg : keptG g) {M : Mo} {N : Nat} (ok : MoOk M N) : frIn M g = true ↔ ∀ a, a < M.rel.length → Meets g (nth M.rel a) := by
  unfold frIn
  rw [propsE_kept hg, ok.check]
  constructor
  · intro h a ha
    have h2 : M.rel.all (fun r => frHas r g) = true := by simpa using h
    exact (frHas_iff hg (ok_relT ok ha)).1 (List.all_eq_true.1 h2 _ (nth_mem ha))
  · intro h
    have h2 : M.rel.all (fun r => frHas r g) = true := List.all_eq_true.2 fun x hx => by
      obtain ⟨a, ha, rfl⟩ := mem_nth hx
      exact (frHas_iff hg (ok_relT ok ha)).2 (h a ha)
    simpa using h2
theorem rowIn_meets {g : Int} (hg : keptG g) {r : List (BitVec 64)} (h : rowIn g r = true) : Meets g r := by
  unfold rowIn meetsB at h
  rcases hg with rfl | rfl | rfl | rfl | rfl
  · exact ⟨fun h => by omega, fun h => by omega, fun h => by omega⟩
  · exact ⟨fun _ => by simpa using h, fun h => by omega, fun h => by omega⟩
  · exact ⟨fun h => by omega, fun _ => by simpa using h, fun h => by omega⟩
  · have : refB r = true ∧ traB r = true := by simpa using h
    exact ⟨fun _ => this.1, fun _ => this.2, fun h => by omega⟩
  · have : (refB r = true ∧ traB r = true) ∧ eucB r = true := by simpa using h
    exact ⟨fun _ => this.1.1, fun _ => this.1.2, fun _ => this.2⟩

/-! Restrictions. -/
section
variable {M : Mo} {N : Nat} (ok : MoOk M N) {ws : List Nat} (h1 : 1 ≤ ws.length) (h64 : ws.length ≤ 64) (hlt : ∀ i, i < ws.length → nth ws i < N)
include ok h64
omit ok in
theorem arr_bit {a : Nat} (ha : a < M.rel.length) {i j : Nat} (hi : i < ws.length) (hj : j < ws.length) : bt (nth (nth (arrM M ws).rel a) i) j = bt (nth (nth M.rel a) (nth ws i)) (nth ws j) := by
  rw [show (arrM M ws).rel = M.rel.map fun r => ws.map fun w => pullL (nth r w) ws from rfl, nth_mapN _ _ ha, nth_mapN _ _ hi, bt_pullL _ _ h64]
  simp [hj]
include h1 hlt
theorem arr_meets {g : Int} {a : Nat} (ha : a < M.rel.length) (h : Meets g (nth M.rel a)) : Meets g (nth (arrM M ws).rel a) := by
  have hr := row_in ok ha
  have hr' := row_in (arr_ok' ok h1 h64) (k := a) (by simpa [arrM] using ha)
  have hb := fun i j (hi : i < ws.length) (hj : j < ws.length) => arr_bit h64 ha hi hj
  constructor
  · intro hg
    refine (refB_iff hr'.1).2 fun i hi => ?_
    rw [hb i i hi hi]
    exact (refB_iff hr.1).1 (h.ref hg) _ (hlt i hi)
  · intro hg
    refine (traB_iff hr'.1 h64 hr'.2).2 fun w u z hw hu hz c1 c2 => ?_
    rw [hb _ _ hw hu] at c1
    rw [hb _ _ hu hz] at c2
    rw [hb _ _ hw hz]
    exact (traB_iff hr.1 ok.most hr.2).1 (h.tra hg) _ _ _ (hlt _ hw) (hlt _ hu) (hlt _ hz) c1 c2
  · intro hg
    refine (eucB_iff hr'.1 hr'.2).2 fun w u z hw hu hz c1 c2 => ?_
    rw [hb _ _ hw hu] at c1
    rw [hb _ _ hw hz] at c2
    rw [hb _ _ hu hz]
    exact (eucB_iff hr.1 hr.2).1 (h.euc hg) _ _ _ (hlt _ hw) (hlt _ hu) (hlt _ hz) c1 c2
theorem arr_in {g : Int} (hg : keptG g) (h : frIn M g = true) : frIn (arrM M ws) g = true := by
  refine (frIn_iff hg (arr_ok' ok h1 h64)).2 fun a ha => ?_
  have ha' : a < M.rel.length := by simpa [arrM] using ha
  exact arr_meets ok h1 h64 hlt ha' ((frIn_iff hg ok).1 h a ha')
end
/-- Whether each world of a list keeps a successor in a set. -/
def serK (M : Mo) (S : BitVec 64) (ws : List Nat) : Bool := (List.range M.rel.length).all fun a => (List.range ws.length).all fun i => nth (nth M.rel a) (nth ws i) &&& S != 0#64
theorem ne_zero_iff (s : BitVec 64) : (s != 0#64) = true ↔ ∃ k, k < 64 ∧ bt s k = true := by
  constructor
  · intro h
    refine Classical.byContradiction fun hn => ?_
    have : s = 0#64 := bt_ext fun k hk => by
      rw [bt_zero]
      cases hb : bt s k
      · rfl
      · exact absurd ⟨k, hk, hb⟩ hn
    rw [this] at h; cases h
  · rintro ⟨k, -, hb⟩
    refine bne_iff_ne.2 fun e => ?_
    rw [e, bt_zero] at hb; cases hb
theorem frIn_kd {M : Mo} {N : Nat} (ok : MoOk M N) : frIn M 1 = true ↔ ∀ a, a < M.rel.length → serB (nth M.rel a) = true := by
  unfold frIn
  rw [show propsE 1 = 0 from rfl, ok.check]
  have key : ∀ a, a < M.rel.length → (frHas (nth M.rel a) 1 = true ↔ serB (nth M.rel a) = true) := fun a ha => by
    unfold frHas
    rw [show propsE 1 = 0 from rfl, show propsL 1 = [1] from rfl, ok_relT ok ha]
    simp only [List.all_cons, List.all_nil, hasB, ok_relT ok ha]
    simp
  constructor
  · intro h a ha
    have h2 : M.rel.all (fun r => frHas r 1) = true := by simpa using h
    exact (key a ha).1 (List.all_eq_true.1 h2 _ (nth_mem ha))
  · intro h
    have h2 : M.rel.all (fun r => frHas r 1) = true := List.all_eq_true.2 fun x hx => by
      obtain ⟨a, ha, rfl⟩ := mem_nth hx
      exact (key a ha).2 (h a ha)
    simpa using h2
theorem serK_kd {M : Mo} {N : Nat} (ok : MoOk M N) {S : BitVec 64} (hS : S ≠ 0#64) (_hin : Sub S (allW N)) : frIn (arrM M (memL S)) 1 = serK M S (memL S) := by
  have h1 := memL_pos hS
  have h64 := memL_len S
  have ok' := arr_ok' ok h1 h64
  rw [Bool.eq_iff_iff, frIn_kd ok']
  unfold serK
  simp only [List.all_eq_true, List.mem_range]
  have hrl : (arrM M (memL S)).rel.length = M.rel.length := by simp [arrM]
  constructor
  · intro h a ha i hi
    have hr' := row_in ok' (k := a) (by omega)
    obtain ⟨u, hu, hb⟩ := (serB_iff hr'.1 hr'.2).1 (h a (by omega)) i hi
    rw [arr_bit h64 ha hi hu] at hb
    have hm := mem_memL.1 (nth_mem hu)
    exact (ne_zero_iff _).2 ⟨_, hm.1, by rw [bt_and, hb, hm.2]; rfl⟩
  · intro h a ha
    rw [hrl] at ha
    have hr' := row_in ok' (k := a) (by omega)
    refine (serB_iff hr'.1 hr'.2).2 fun i hi => ?_
    obtain ⟨k, hk, hb⟩ := (ne_zero_iff _).1 (h a ha i hi)
    rw [bt_and, Bool.and_eq_true] at hb
    obtain ⟨j, hj, e⟩ := mem_nth (mem_memL.2 ⟨hk, hb.2⟩)
    exact ⟨j, hj, by rw [arr_bit h64 ha hi hj, e]; exact hb.1⟩

/-! Products. -/
/-- What the product model is, from the list of its pairs. -/
def prB (M : Mo) (A : Acn) (i : Nat) (p q : Nat × Nat) : Bool := bt (nth (nth M.rel i) p.1) q.1 && bt (nth (nth A.rel i) p.2) q.2
def prV (M : Mo) (A : Acn) (i : Nat) (p : Nat × Nat) : Bool := bt (holdsOf M (vaL (nth A.post p.2) i)) p.1
def prR (M : Mo) (A : Acn) (L : List (Nat × Nat)) (i k : Nat) : BitVec 64 := setTo (fun j => prB M A i (nth L k) (nth L j)) L.length
def prRow' (M : Mo) (A : Acn) (L : List (Nat × Nat)) (i : Nat) : List (BitVec 64) := (List.range L.length).map fun k => prR M A L i k
def prS (M : Mo) (A : Acn) (L : List (Nat × Nat)) (i : Nat) : BitVec 64 := setTo (fun j => prV M A i (nth L j)) L.length
def prM (M : Mo) (A : Acn) (L : List (Nat × Nat)) : Mo := ⟨(L.length : Int), (List.range M.val.length).map fun i => prS M A L i, (List.range M.rel.length).map fun i => prRow' M A L i⟩
theorem prM_ok {M : Mo} {N : Nat} (ok : MoOk M N) (A : Acn) {L : List (Nat × Nat)} (h1 : 1 ≤ L.length) (h64 : L.length ≤ 64) : MoOk (prM M A L) L.length where
  worlds := rfl
  one := h1
  most := h64
  rel := by simpa [prM] using ok.rel
  val := by simpa [prM] using ok.val
  row := fun r hr => by
    simp only [prM, List.mem_map] at hr
    obtain ⟨i, _, rfl⟩ := hr
    simp [prRow']
  valIn := fun s hs => by
    simp only [prM, List.mem_map] at hs
    obtain ⟨i, _, rfl⟩ := hs
    exact andNot_zero.2 (setTo_le _ _)
  relIn := fun r hr s hs => by
    simp only [prM, List.mem_map] at hr
    obtain ⟨i, _, rfl⟩ := hr
    simp only [prRow', List.mem_map] at hs
    obtain ⟨k, _, rfl⟩ := hs
    exact andNot_zero.2 (setTo_le _ _)
theorem prM_bit (M : Mo) (A : Acn) {L : List (Nat × Nat)} (h64 : L.length ≤ 64) {i k j : Nat} (hi : i < M.rel.length) (hk : k < L.length) (hj : j < L.length) : bt (nth (nth (prM M A L).rel i) k) j = prB M A i (nth L k) (nth L j) := by
  rw [show (prM M A L).rel = (List.range M.rel.length).map fun i => prRow' M A L i from rfl, nth_mapX _ hi]
  unfold prRow'
  rw [nth_mapX _ hk]
  unfold prR
  rw [bt_setTo _ (by omega)]
  simp [hj]
theorem prK_mem {M : Mo} {A : Acn} {N : Nat} {p : Nat × Nat} (h : p ∈ prK M A N) : p.1 < N ∧ p.2 < A.pre.length := by
  simp only [prK, prRow, List.mem_flatMap, List.mem_range, List.mem_filterMap] at h
  obtain ⟨u, hu, e, he, h2⟩ := h
  split at h2
  · cases h2; exact ⟨hu, he⟩
  · cases h2
section
variable {M : Mo} {N : Nat} (ok : MoOk M N) {A : Acn} {K : Nat} (hA : ∀ a, a < M.rel.length → (nth A.rel a).length = K ∧ ∀ e, e < K → Sub (nth (nth A.rel a) e) (allW K)) (hK : K ≤ 64) {L : List (Nat × Nat)} (h1 : 1 ≤ L.length) (h64 : L.length ≤ 64) (hL : ∀ k, k < L.length → (nth L k).1 < N ∧ (nth L k).2 < K)
include ok hA hK h1 h64 hL
theorem pr_meets {g : Int} {a : Nat} (ha : a < M.rel.length) (h : Meets g (nth M.rel a)) (h2 : Meets g (nth A.rel a)) : Meets g (nth (prM M A L).rel a) := by
  have hr := row_in ok ha
  have hs := hA a ha
  have hr' := row_in (prM_ok ok A h1 h64) (k := a) (by simpa [prM] using ha)
  have hb := fun i j (hi : i < L.length) (hj : j < L.length) => prM_bit M A h64 ha hi hj
  constructor
  · intro hg
    refine (refB_iff hr'.1).2 fun i hi => ?_
    rw [hb i i hi hi]
    unfold prB
    rw [(refB_iff hr.1).1 (h.ref hg) _ (hL i hi).1, (refB_iff hs.1).1 (h2.ref hg) _ (hL i hi).2]
    rfl
  · intro hg
    refine (traB_iff hr'.1 h64 hr'.2).2 fun w u z hw hu hz c1 c2 => ?_
    rw [hb _ _ hw hu] at c1
    rw [hb _ _ hu hz] at c2
    rw [hb _ _ hw hz]
    unfold prB at c1 c2 ⊢
    rw [Bool.and_eq_true] at c1 c2 ⊢
    exact ⟨(traB_iff hr.1 ok.most hr.2).1 (h.tra hg) _ _ _ (hL _ hw).1 (hL _ hu).1 (hL _ hz).1 c1.1 c2.1, (traB_iff hs.1 hK hs.2).1 (h2.tra hg) _ _ _ (hL _ hw).2 (hL _ hu).2 (hL _ hz).2 c1.2 c2.2⟩
  · intro hg
    refine (eucB_iff hr'.1 hr'.2).2 fun w u z hw hu hz c1 c2 => ?_
    rw [hb _ _ hw hu] at c1
    rw [hb _ _ hw hz] at c2
    rw [hb _ _ hu hz]
    unfold prB at c1 c2 ⊢
    rw [Bool.and_eq_true] at c1 c2 ⊢
    exact ⟨(eucB_iff hr.1 hr.2).1 (h.euc hg) _ _ _ (hL _ hw).1 (hL _ hu).1 (hL _ hz).1 c1.1 c2.1, (eucB_iff hs.1 hs.2).1 (h2.euc hg) _ _ _ (hL _ hw).2 (hL _ hu).2 (hL _ hz).2 c1.2 c2.2⟩
end
/-- A model and an action model of a logic: their product is of the logic. -/
theorem pr_in {g : Int} (hg : keptG g) {M : Mo} {N : Nat} (ok : MoOk M N) {A : Acn} {n : Nat} (hA : AcOk A M.rel.length n) (h1 : frIn M g = true) (h2 : acIn A g = true) (h0 : prK M A N ≠ []) (h64 : (prK M A N).length ≤ 64) : frIn (prM M A (prK M A N)) g = true := by
  have hl : 1 ≤ (prK M A N).length := Nat.pos_of_ne_zero fun h => h0 (List.eq_nil_of_length_eq_zero h)
  refine (frIn_iff hg (prM_ok ok A hl h64)).2 fun a ha => ?_
  have ha' : a < M.rel.length := by simpa [prM] using ha
  have hm : ∀ a, a < M.rel.length → nth A.rel a ∈ A.rel := fun a h => nth_mem (by rw [hA.rl]; exact h)
  refine pr_meets ok (K := A.pre.length) (fun a ha => ?_) (by have := hA.p8; omega) hl h64 (fun k hk => prK_mem (nth_mem hk)) ha' ((frIn_iff hg ok).1 h1 a ha') (rowIn_meets hg ?_)
  · obtain ⟨c1, c2⟩ := hA.rr _ (hm a ha)
    refine ⟨c1, fun e he => ?_⟩
    refine andNot_zero.1 ?_
    have := List.any_eq_false.1 c2 (nth (nth A.rel a) e) (nth_mem (by omega))
    simpa [outOne] using this
  · unfold acIn at h2
    rw [Bool.and_eq_true] at h2
    exact List.all_eq_true.1 h2.2 _ (hm a ha')
/-! The facts' bound does not matter for action models without error. -/
theorem below_mono {s n m : Nat} (h : below s n = true) (hnm : n ≤ m) : below s m = true := by
  unfold below at h ⊢
  by_cases hm : 31 ≤ m
  · rw [decide_eq_true hm]; rfl
  · rw [decide_eq_false (by omega)] at h
    have h1 : s / 2 ^ n = 0 := by simpa [Nat.shiftRight_eq_div_pow] using h
    have h2 : s < 2 ^ n := by
      rcases Nat.div_eq_zero_iff.1 h1 with h | h
      · exact absurd h (Nat.ne_of_gt (Nat.two_pow_pos n))
      · exact h
    have h3 : 2 ^ n ≤ 2 ^ m := Nat.pow_le_pow_right (by omega) hnm
    have h4 : s / 2 ^ m = 0 := Nat.div_eq_of_lt (by omega)
    simp [Nat.shiftRight_eq_div_pow, h4]
theorem stErr_mono {f : List Nd} {a n m : Nat} (h : stErr f a n = 0) (hnm : n ≤ m) : stErr f a m = 0 := by
  obtain ⟨h1, h2, h3⟩ := stErr_ok h
  unfold stErr
  rw [if_neg (by simp [h1]), if_neg (by omega), if_neg]
  unfold fFits at h3 ⊢
  rw [Bool.and_eq_true] at h3
  rw [h3.1, below_mono h3.2 hnm]
  decide
theorem chErr_mono {a n m : Nat} (hnm : n ≤ m) : ∀ {l : List Asn} {last : Int}, chErr a n l last = 0 → chErr a m l last = 0
  | [], _, _ => rfl
  | x :: l, last, h => by
    rw [chErr_cons] at h ⊢
    split at h
    · cases h
    · next c1 =>
      split at h
      · cases h
      · next c2 =>
        split at h
        · next c3 => exact absurd h c3
        · next c3 =>
          have h4 := stErr_mono (Decidable.not_not.1 c3) hnm
          rw [if_neg (by omega), if_neg c2, if_neg (by simp [h4])]
          exact chErr_mono hnm h
theorem evErr_mono {a n m : Nat} (hnm : n ≤ m) : ∀ {l : List (List Nd)} {q : List (List Asn)}, evErr a n l q = 0 → evErr a m l q = 0
  | [], _, _ => rfl
  | f :: l, q, h => by
    change (if stErr f a n ≠ 0 then stErr f a n else if chErr a n (q.headD []) (-1) ≠ 0 then chErr a n (q.headD []) (-1) else evErr a n l q.tail) = 0 at h
    change (if stErr f a m ≠ 0 then stErr f a m else if chErr a m (q.headD []) (-1) ≠ 0 then chErr a m (q.headD []) (-1) else evErr a m l q.tail) = 0
    split at h
    · next c => exact absurd h c
    · next c =>
      split at h
      · next c2 => exact absurd h c2
      · next c2 =>
        have h3 := stErr_mono (Decidable.not_not.1 c) hnm
        have h4 := chErr_mono hnm (Decidable.not_not.1 c2)
        rw [if_neg (by simp [h3]), if_neg (by rw [h4]; simp)]
        exact evErr_mono hnm h
theorem acErr_mono {A : Acn} {a n : Nat} (h : acErr A a n = 0) : acErr A a 8 = 0 := by
  have h8 := (acErr_ok h).n8
  unfold acErr at h ⊢
  split at h
  · cases h
  · next c =>
    split at h
    · next c2 => exact absurd h c2
    · next c2 =>
      rw [if_neg (by omega), if_neg c2]
      exact evErr_mono h8 h
end Wt
