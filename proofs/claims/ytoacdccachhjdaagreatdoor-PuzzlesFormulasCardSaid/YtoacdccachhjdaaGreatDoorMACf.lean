/- Rows of ints as they are read; walk: puzzles.Deal's closure. -/
import Derived.Test.YtoacdccachhjdaaGreatDoorMACe
import Derived.Test.YtoacdccachhjdaaGreatDoorMACa
import Derived.Test.YtoacdccachhjdaaGreatDoorMAAu
import Derived.Test.YtoacdccachhjdaaGreatDoorMAAw
import Derived.Test.YtoacdccachhjdaaGreatDoorMABc
import Derived.Test.YtoacdccachhjdaaGreatDoorMAAx
namespace Wt
open Go Go.RowKit Go.Maps Go.Proofs Fm

/-- A slice of rows of ints. -/
structure RII (w : World) (a : Option Addr) (L : List (List Nat)) : Prop where
  len : L.length ≤ 140737488355328
  get : ∀ k, k < L.length → ∃ b off a' c', a = some ⟨b, off, none⟩ ∧ b < w.heap.size ∧ w.cell? ⟨b, off + k, none⟩ = some (.slice a' (nth L k).length c') ∧ RI w a' (natI (nth L k))
theorem RII.ext {w w' : World} {a : Option Addr} {L : List (List Nat)} (h : RII w a L) (e : Ext w w') : RII w' a L :=
  ⟨h.len, fun k hk => by
    obtain ⟨b, off, a', c', h1, h2, h3, h4⟩ := h.get k hk
    exact ⟨b, off, a', c', h1, Nat.lt_of_lt_of_le h2 e.size, e.cell h3, h4.ext e⟩⟩
theorem DK.rii {W0 w : World} {L : List (List Nat)} {svs : List Value} {v : Value} (h : DK W0 L svs v w) (h1 : L.length ≤ 1000) (h2 : ∀ r ∈ L, r.length ≤ 1000) : ∃ a c, v = .slice a L.length c ∧ ∀ w'', Agree W0.heap.size w w'' → RII w'' a L := by
  have hl := h.len
  rcases h.own.2 with ⟨rfl, h0⟩ | ⟨g, cap, cur, rfl, hb, hg, hnc, hcm, hcs, htake⟩
  · have : L = [] := List.eq_nil_of_length_eq_zero (by omega)
    subst this
    exact ⟨none, 0, rfl, fun w'' _ => ⟨by simp, fun k hk => absurd hk (by simp)⟩⟩
  · refine ⟨some ⟨g, 0, none⟩, cap, by rw [hl], fun w'' ha => ⟨by omega, fun k hk => ?_⟩⟩
    have hgl := (Array.getElem?_eq_some_iff.1 hg).1
    have hg2 : w''.heap[g]? = some (.cells cur 22 (0, 0)) := (ha g hb hgl).trans hg
    have hnl : (natI (nth L k)).length = (nth L k).length := by simp [natI]
    have hro := own_agree (h.rw k hk) ha
    rw [← hnl] at hro
    have hr2 := h2 _ (nth_mem hk)
    obtain ⟨a', c', e', hr⟩ := RI_of_own hro (by omega)
    rw [hnl] at e'
    refine ⟨g, 0, a', c', rfl, (Array.getElem?_eq_some_iff.1 hg2).1, ?_, hr⟩
    rw [cell_of_row w'' g _ cur _ (0, 0) hg2, Nat.zero_add, ← e']
    have h3 : svs[k]? = some (nth svs k) := by rw [nth_eq svs k (by omega)]; simp [show k < svs.length by omega]
    have h4 : (cur.toList.take (svs.length * 1))[k]? = some (nth svs k) := by rw [htake]; exact h3
    rw [List.getElem?_take, if_pos (by omega)] at h4
    simpa using h4
theorem cf_deal1 (args : Array Value) (W : World) : (callFunc 69 args).run Tryz.prog W = .ok (.enter 69 args) W := by
  simp [callFunc, Tryz.func69, Tryz.f69]
set_option maxHeartbeats 1000000 in
theorem deal1_any (L : List (List Nat)) (la : Option Addr) (lc bl a v : Nat) (w : World) (hl : RII w la L) (hbl : w.cell? ⟨bl, 0, none⟩ = some (.slice la L.length lc)) (hv : v < L.length) (ha : a < (nth L v).length) :
    Calls Tryz.prog 69 (.int .i64 (a : Int) :: .int .i64 (v : Int) :: [.pointer (some ⟨bl, 0, none⟩)]).toArray w fun e w' => e = .returned (.int .i64 ((nth (nth L v) a : Nat) : Int)) ∧ Ext w w' := by
  obtain ⟨b, off, a', c', rfl, hb, hc, hr⟩ := hl.get v hv
  have hll := hl.len
  have hnl : (natI (nth L v)).length = (nth L v).length := by simp [natI]
  obtain ⟨b2, off2, rfl, hb2, hc2⟩ := hr.get (k := a) (by rw [hnl]; exact ha)
  have hrl := hr.len
  rw [hnl] at hrl
  rw [nth_natI ha] at hc2
  have bl' := World.block_lt_of_cell? _ _ hbl
  dsimp only at bl'
  clear hl hr hnl
  generalize nth (nth L v) a = y at *
  generalize (nth L v).length = ln at *
  go_enter Tryz.func69, Tryz.ntmps69
  go_wp2_with fail
  go_ret
  exact ⟨rfl, Ext.refl w⟩
end Wt

/- Walk: puzzles.Deal where it answers. -/
namespace Wt
open Go Go.RowKit Go.Maps Go.Proofs Fm

/-- A deal as a number: two bits for each player's card. -/
def dealF (r : List Nat) : Nat → Nat
  | 0 => 0
  | j + 1 => dealF r j ||| nth r j <<< (2 * j)
def dealW (r : List Nat) : Nat := dealF r r.length
def deaL (p C : Nat) : List (List Nat) := dealL C p []
def deaM (p C : Nat) : Mo := bldM (2 * p) ((deaL p C).map dealW) p fun a v => ((nth (nth (deaL p C) v) a : Nat) : Int)
theorem deaL_ok : ∀ p C : _root_.Fin 5, (deaL p.val C.val).length ≤ 64 ∧ ∀ r ∈ deaL p.val C.val, r.length = p.val ∧ (∀ c ∈ r, c < 4) := by decide +kernel
theorem deaF_T : ∀ x : _root_.Fin 256, ∀ y j : _root_.Fin 4, bits .or .i64 ((x.val : Nat) : Int) (IntKind.i64.wrap (((y.val : Nat) : Int) * 2 ^ (2 * j.val))) = ((x.val ||| y.val <<< (2 * j.val) : Nat) : Int) := by decide +kernel
theorem dealF_lt (r : List Nat) (hr : ∀ c ∈ r, c < 4) : ∀ j, j ≤ r.length → dealF r j < 2 ^ (2 * j)
  | 0, _ => by simp [dealF]
  | j + 1, h => by
    have h1 := dealF_lt r hr j (by omega)
    have h2 : nth r j < 4 := hr _ (nth_mem (by omega))
    have h3 : 2 ^ (2 * (j + 1)) = 4 * 2 ^ (2 * j) := by rw [show 2 * (j + 1) = 2 * j + 2 by omega, Nat.pow_add]; omega
    have h4 : 0 < 2 ^ (2 * j) := Nat.two_pow_pos _
    refine Nat.or_lt_two_pow (by omega) ?_
    rw [Nat.shiftLeft_eq, h3]
    exact Nat.mul_lt_mul_of_pos_right h2 h4
theorem dealF_bits {r : List Nat} (hr : ∀ c ∈ r, c < 4) {j : Nat} (hj : j < r.length) (h4 : r.length ≤ 4) : bits .or .i64 ((dealF r j : Nat) : Int) (wrap64 (((nth r j : Nat) : Int) * 2 ^ (2 * j))) = ((dealF r (j + 1) : Nat) : Int) := by
  have h1 := dealF_lt r hr j (by omega)
  have h2 : 2 ^ (2 * j) ≤ 2 ^ 8 := Nat.pow_le_pow_right (by omega) (by omega)
  have h3 : nth r j < 4 := hr _ (nth_mem hj)
  have e : ∀ n : Int, wrap64 n = IntKind.i64.wrap n := fun n => by rw [IntKind.wrap_i64]; unfold RowKit.wrap64; rfl
  rw [e]
  exact deaF_T ⟨dealF r j, by omega⟩ ⟨nth r j, h3⟩ ⟨j, by omega⟩
/-- A model, a list of deals and an error. -/
def RetDl (A : Mo) (L : List (List Nat)) (c : Int) (e : Ending) (w w' : World) : Prop := ∃ va ra la vc rc lc, e = .returned (.tuple #[.agg #[.int .i64 A.worlds, .slice va A.val.length vc, .slice ra A.rel.length rc], .slice la L.length lc, .int .i64 c]) ∧ RM w' va ra A ∧ RII w' la L ∧ Ext w w'
/-- The same, with memory of its own. -/
def RetDk2 (A : Mo) (L : List (List Nat)) (c : Int) (e : Ending) (w w' : World) : Prop := ∃ va ra la vc rc lc, e = .returned (.tuple #[.agg #[.int .i64 A.worlds, .slice va A.val.length vc, .slice ra A.rel.length rc], .slice la L.length lc, .int .i64 c]) ∧ (∀ w'', Agree w.heap.size w' w'' → RM w'' va ra A) ∧ (∀ w'', Agree w.heap.size w' w'' → RII w'' la L) ∧ Ext w w'
theorem RetDk2.dl {A : Mo} {L : List (List Nat)} {c : Int} {e : Ending} {w w' : World} (h : RetDk2 A L c e w w') : RetDl A L c e w w' := by
  obtain ⟨va, ra, la, vc, rc, lc, rfl, h1, h2, h3⟩ := h
  exact ⟨va, ra, la, vc, rc, lc, rfl, h1 _ fun _ _ _ => rfl, h2 _ fun _ _ _ => rfl, h3⟩
set_option maxRecDepth 20000 in
set_option maxHeartbeats 8000000 in
theorem deal_own (p C : Nat) (hp : 1 ≤ p) (hC : C ≤ 4) (hpC : p ≤ C) (w : World) : Calls Tryz.prog 20 #[.int .i64 (p : Int), .int .i64 (C : Int)] w fun e w' => RetDk2 (deaM p C) (deaL p C) 0 e w w' := by
  have hE0 : Ext w (w.alloc (.cells #[.int .i64 0, .slice none 0 0, .slice none 0 0] 28)) := (Ext.refl w).alloc _
  have HE := Lib.hid hE0
  have HOR := Lib.hid (OutAt.new w (.int .i64 0) (.slice none 0 0) (.slice none 0 0) 28)
  have hsz : (w.alloc (.cells #[.int .i64 0, .slice none 0 0, .slice none 0 0] 28)).heap.size = w.heap.size + 1 := by simp
  have HSZ := Lib.hid hsz
  have d0 : decide ((p : Int) < 1) = false := decide_eq_false (by omega)
  have d1 : decide ((4 : Int) < (p : Int)) = false := decide_eq_false (by omega)
  have d2 : decide ((C : Int) < (p : Int)) = false := decide_eq_false (by omega)
  have d3 : decide ((4 : Int) < (C : Int)) = false := decide_eq_false (by omega)
  have d4 : decide (C < p) = false := decide_eq_false (by omega)
  clear hE0 hsz
  go_enter Tryz.func20, Tryz.ntmps20
  go_wp2_with fail
  generalize w.alloc (.cells #[.int .i64 0, .slice none 0 0, .slice none 0 0] 28) = w0 at *
  refine (deals_any C hC p [] none 0 p w0 (by simp) (by omega) (RI.nil _ _)).mono ?_
  rintro _ w1 ⟨svs, v1, rfl, hdk⟩
  obtain ⟨la, lc, rfl, hri⟩ := hdk.rii (by have := (deaL_ok ⟨p, by omega⟩ ⟨C, by omega⟩).1; unfold deaL at this; dsimp only at this; omega) (fun r hr => by have := ((deaL_ok ⟨p, by omega⟩ ⟨C, by omega⟩).2 r hr).1; dsimp only at this; omega)
  have HRI := Lib.hid hri
  have HX1 := Lib.hid hdk.e
  clear hri hdk
  dsimp only
  obtain ⟨L, hL⟩ : ∃ L, L = dealL C p [] := ⟨_, rfl⟩
  rw [← hL] at HRI ⊢
  have HLe := Lib.hid hL
  clear hL
  have bn := Bx1.new w1 (.slice la L.length lc) 37
  have bc := bn.c
  have HBN := Lib.hid bn
  have HX2 : Hid (Ext w1 (w1.alloc (.cells #[.slice la L.length lc] 37))) := Lib.hid ((Ext.refl _).alloc _)
  have HLL : Hid (L.length ≤ 64 ∧ ∀ r ∈ L, r.length = p ∧ ∀ c ∈ r, c < 4) := Lib.hid (by
    rw [HLe.out]
    exact deaL_ok ⟨p, by omega⟩ ⟨C, by omega⟩)
  have hl64 := HLL.out.1
  clear bn
  go_wp2_with fail
  have HRI2 : Hid (RII (w1.alloc (.cells #[.slice la L.length lc] 37)) la L) := Lib.hid (HRI.out _ fun k hk hl => HX2.out.block k hl)
  generalize w1.alloc (.cells #[.slice la L.length lc] 37) = w2 at *
  clear bc
  go_loopw [8, 35] (fun v i wr => ∃ k : Nat, k ≤ L.length ∧ i = .int .i64 (k : Int) ∧ Hid (GL w2 3 iv (natI ((L.take k).map dealW)) v wr)) (fun _ i _ => L.length - (RowKit.intOf i).toNat)
  case atStart => exact ⟨0, Nat.zero_le _, rfl, Lib.hid ⟨Ext.refl _, by rw [List.take_zero]; exact World.ownsRow_nil _ _ _ _⟩⟩
  case round =>
    obtain ⟨k, hk, rfl, HS⟩ := hrel
    by_cases hkl : k < L.length
    · obtain ⟨bb, off, ra, rc, rfl, hbb, hc, hr⟩ := (HRI2.out.ext HS.out.e).get k hkl
      have hrl := HLL.out.2 _ (nth_mem hkl)
      have HTK : Hid (natI ((L.take (k + 1)).map dealW) = natI ((L.take k).map dealW) ++ [((dealW (nth L k) : Nat) : Int)]) := Lib.hid (by rw [take_nthZ hkl]; simp [natI])
      generalize nth L k = r at *
      have HR := Lib.hid hr
      have HRL := Lib.hid hrl
      have hrn4 : r.length ≤ 4 := by have := hrl.1; omega
      have hrll := hr.len
      clear hr hrl
      go_wp2_with fail
      go_loopw [11, 41] (fun x i wz => ∃ j : Nat, j ≤ r.length ∧ i = .int .i64 (j : Int) ∧ x = .int .i64 ((dealF r j : Nat) : Int) ∧ wz = wr) (fun _ i _ => r.length - (RowKit.intOf i).toNat)
      case atStart => exact ⟨0, Nat.zero_le _, rfl, rfl, rfl⟩
      case round =>
        rename World => wz
        obtain ⟨j, hj, rfl, rfl, rfl⟩ := hrel
        by_cases hjl : j < r.length
        · have hnl : (natI r).length = r.length := by simp [natI]
          obtain ⟨b3, o3, rfl, hb3, hc3⟩ := HR.out.get (k := j) (by rw [hnl]; exact hjl)
          rw [nth_natI hjl] at hc3
          have HBT := Lib.hid (dealF_bits HRL.out.2 hjl hrn4)
          go_wp2_with fail
          go_roundw
          case rel => exact ⟨j + 1, hjl, by go_num, by rw [HBT.out], trivial⟩
          case measure => simp [RowKit.intOf]; omega
        · obtain rfl : j = r.length := by omega
          have HTK2 : Hid (natI ((L.take (k + 1)).map dealW) = natI ((L.take k).map dealW) ++ [((dealF r r.length : Nat) : Int)]) := HTK
          have HO : Hid (∀ o, (wz.alloc o).ownsRow w2.heap.size 3 1 u8 (natI ((L.take k).map dealW)).length ((natI ((L.take k).map dealW)).map iv)) := Lib.hid fun o => (HS.out.ext' ((Ext.refl wz).alloc o)).own
          have HPA : Hid (∀ o, GL w2 3 iv (natI ((L.take k).map dealW)) u8 (wz.alloc o)) := Lib.hid fun o => HS.out.ext' ((Ext.refl wz).alloc o)
          have hsz1 : w2.heap.size ≤ wz.heap.size := HS.out.e.size
          have hzl : (natI ((L.take k).map dealW)).length ≤ 64 := by simp [natI]; omega
          obtain ⟨z, hz⟩ : ∃ z, z = dealF r r.length := ⟨_, rfl⟩
          rw [← hz] at HTK2
          have HZ := Lib.hid hz
          have HONE : Hid (∀ u ∈ [Value.int .i64 (z : Int)], u.oneCell' = true) := Lib.hid (by simp [Value.oneCell'])
          obtain ⟨i0, hi1, hz0, hz1, hz2⟩ := info_parts int_info
          generalize natI ((L.take k).map dealW) = ZL at *
          rw [← hz]
          clear hz HTK
          go_wp2_with (at_builtin; refine wpList_append_lies _ rfl _ _ 22 rfl w2.heap.size 3 i0 _ 1 8 Tryz.underlying22 hi1 hz0 hz1 hz2 rfl (by decide) u8 ZL.length (ZL.map iv) rfl (HO.out _) ⟨wz.heap.size, 0, none⟩ 1 1 [.int .i64 (z : Int)] rfl rfl (cell_one_new _ _ _) HONE.out (by decide) (by unfold maxLen; omega) (by omega) (Nat.le_trans hsz1 (by simp)) (wz.heap.size + 1) (by simp) ?_; intro gx cap W1 hown hgrow hat hlt2; have hpush := (HPA.out _).push (x := (z : Int)) hown hgrow; have HPU := Lib.hid hpush; clear hpush hown hgrow hat)
          go_roundw
          case rel => exact ⟨k + 1, hkl, by go_num, Lib.hid (by rw [HTK2.out]; exact HPU.out)⟩
          case measure => simp [RowKit.intOf]; omega
    · obtain rfl : k = L.length := by omega
      have hS := HS.out
      rw [List.take_length] at hS
      obtain ⟨wa, wc, rfl, hri⟩ := RI_of_own hS.own (by simp [natI]; omega)
      have hnl : (natI (L.map dealW)).length = L.length := by simp [natI]
      have hml : (L.map dealW).length = L.length := by simp
      rw [hnl]
      have HXr := Lib.hid hS.e
      have HWR := Lib.hid hri
      have HB : Hid (∀ W', Ext wr W' → Calls Tryz.prog 53 #[.int .i64 (2 * (p : Int)), .slice wa L.length wc, .int .i64 (p : Int), .func (.func 69) #[] #[.pointer (some ⟨w1.heap.size, 0, none⟩)]] W' fun e w' => RetMA (deaM p C) e W' w') := Lib.hid fun W' hW' => by
        have h := build32_any 69 [.pointer (some ⟨w1.heap.size, 0, none⟩)] (fun a v => ((nth (nth L v) a : Nat) : Int)) (2 * p) p (L.map dealW) wa wc W' (HWR.out.ext hW') (by omega) (by omega) (by omega) cf_deal1 (fun W a v hW ha hv => by
          have hx := (HXr.out.trans hW').trans hW
          have hr := (HLL.out.2 _ (nth_mem (show v < L.length by omega))).1
          exact deal1_any L la lc w1.heap.size a v W (HRI2.out.ext hx) (HBN.out.ext hx).c (by omega) (by omega))
        rw [hml] at h
        unfold deaM deaL
        rw [← HLe.out, show (2 * (p : Int)) = ((2 * p : Nat) : Int) by omega]
        exact h
      clear hnl hml hri hS HWR
      obtain ⟨A, hA⟩ : ∃ A, A = deaM p C := ⟨_, rfl⟩
      rw [← hA] at HB
      have HAe := Lib.hid hA
      clear hA
      have HBX : Hid (∀ W', Ext wr W' → W'.cell? ⟨w1.heap.size, 0, none⟩ = some (.slice la L.length lc)) := Lib.hid fun W' h => (HBN.out.ext (HXr.out.trans h)).c
      go_wp2_with fail
      refine wp_region_E 8 (fun w' => w'.cell? ⟨w1.heap.size, 0, none⟩ = some (.slice la L.length lc)) (by kernel_rfl) ?_
      refine wpAnyE_take (i := 0) (v := ?_) (.here) (by kernel_rfl) (fun _ _ _ h => h) (HBX.out _ (Ext.refl _).drew) (by rfl) ?_ ?_
      rotate_left
      focus (intro w hSw; (try dsimp only at hSw); go_simp; try with_reducible rfl)
      try simp only [Act.put, List.setIfInBounds_toArray, List.set_cons_zero, List.set_cons_succ]
      refine wpAnyE_take (i := 1) (v := ?_) (.next (.here)) (by kernel_rfl) (fun _ _ _ h => h) (HBX.out _ (Ext.refl _).drew) (by rfl) ?_ ?_
      rotate_left
      focus (intro w hSw; (try dsimp only at hSw); go_simp; try with_reducible rfl)
      try simp only [Act.put, List.setIfInBounds_toArray, List.set_cons_zero, List.set_cons_succ]
      refine wpAnyE_take (i := 2) (v := ?_) (.next (.next (.here))) (by kernel_rfl) (fun _ _ _ h => h) (HBX.out _ (Ext.refl _).drew) (by rfl) ?_ ?_
      rotate_left
      focus (intro w hSw; (try dsimp only at hSw); go_simp; try with_reducible rfl)
      try simp only [Act.put, List.setIfInBounds_toArray, List.set_cons_zero, List.set_cons_succ]
      refine wpAnyE_take (i := 3) (v := ?_) (.next (.next (.next (.here)))) (by kernel_rfl) (fun _ _ _ h => h) (HBX.out _ (Ext.refl _).drew) (by rfl) ?_ ?_
      rotate_left
      focus (intro w hSw; (try dsimp only at hSw); go_simp; try with_reducible rfl)
      try simp only [Act.put, List.setIfInBounds_toArray, List.set_cons_zero, List.set_cons_succ]
      refine wpAnyE_take (i := 6) (v := ?_) (.next (.next (.next (.next (.next (.next (.here))))))) (by kernel_rfl) (fun _ _ _ h => h) (HBX.out _ (Ext.refl _).drew) (by rfl) ?_ ?_
      rotate_left
      focus (intro w hSw; (try dsimp only at hSw); go_simp; try with_reducible rfl)
      try simp only [Act.put, List.setIfInBounds_toArray, List.set_cons_zero, List.set_cons_succ]
      rw [show IntKind.i64.wrap (2 * (p : Int)) = 2 * (p : Int) by rw [IntKind.wrap_i64]; omega]
      refine wpAnyE_one (k := 4) (.next (.next (.next (.next (.here))))) (by kernel_rfl) (fun K hK => ?_)
      go_simp
      refine hK.out _ _ (fun _ => HBX.out _ (Ext.refl _).drew) ?_
      clear hK
      try simp only [Act.put, List.setIfInBounds_toArray, List.set_cons_zero, List.set_cons_succ]
      refine wpAnyE_one (k := 5) (.next (.next (.next (.next (.next (.here)))))) (by kernel_rfl) (fun K hK => ?_)
      go_simp
      refine (HB.out _ (Ext.refl _).drew).mono ?_; rintro _ w9 ⟨va, ra, vc, rc, rfl, hka, hE9⟩; dsimp only
      refine hK.out _ _ (fun _ => HBX.out _ ((Ext.refl _).drew.trans hE9)) ?_
      clear hK
      try simp only [Act.put, List.setIfInBounds_toArray, List.set_cons_zero, List.set_cons_succ]
      have HKA := Lib.hid hka
      have HXD : Hid (Ext wr w9) := Lib.hid ((Ext.refl _).drew.trans hE9)
      have HX02 : Hid (Ext w0 w2) := Lib.hid (HX1.out.trans HX2.out)
      have HX9 := Lib.hid (HX02.out.trans (HXr.out.trans HXD.out))
      have HO9 := Lib.hid (HOR.out.ext HX9.out)
      obtain ⟨r0, r1, r2, rfz⟩ := HO9.out
      have f0 := rfz 0
      have f1 := rfz 1
      have f2 := rfz 2
      have rl := HO9.out.lt
      have hs0 := HSZ.out
      have hs1 := HX1.out.size
      have hs2 := HXr.out.size
      have hs3 := HX2.out.size
      have hs4 : wr.drew.heap.size = wr.heap.size := rfl
      have HBK : Hid (∀ k, k ≠ w.heap.size → (((w9.setCell ⟨w.heap.size, 0, none⟩ (.int .i64 A.worlds)).setCell ⟨w.heap.size, 1, none⟩ (.slice va A.val.length vc)).setCell ⟨w.heap.size, 2, none⟩ (.slice ra A.rel.length rc)).heap[k]? = w9.heap[k]?) := Lib.hid fun k hne => by
        rw [heap_setCell_other _ _ _ _ (by simpa using hne), heap_setCell_other _ _ _ _ (by simpa using hne), heap_setCell_other _ _ _ _ (by simpa using hne)]
      have HSQ : Hid ((((w9.setCell ⟨w.heap.size, 0, none⟩ (.int .i64 A.worlds)).setCell ⟨w.heap.size, 1, none⟩ (.slice va A.val.length vc)).setCell ⟨w.heap.size, 2, none⟩ (.slice ra A.rel.length rc)).cell? ⟨w1.heap.size, 0, none⟩ = some (.slice la L.length lc)) := Lib.hid ((World.cell?_of_block (HBK.out w1.heap.size (by omega))).trans (HBX.out _ HXD.out))
      clear hka hE9 rfz
      refine wpAnyE_one (k := 7) (.next (.next (.next (.next (.next (.next (.next (.here)))))))) (by kernel_rfl) (fun K hK => ?_)
      go_simp
      go_wp2_with fail
      refine hK.out _ _ (fun _ => HSQ.out) ?_
      clear hK
      try simp only [Act.put, List.setIfInBounds_toArray, List.set_cons_zero, List.set_cons_succ]
      refine wpAnyE_seq [8, 9] (.cons (.next (.next (.next (.next (.next (.next (.next (.next (.here))))))))) (.cons (.next (.next (.next (.next (.next (.next (.next (.next (.next (.here)))))))))) (.nil))) (by kernel_rfl) (by kernel_rfl) ?_
      go_wp2_with fail
      have hkm : ∀ w'' : World, Agree w.heap.size (((w9.setCell ⟨w.heap.size, 0, none⟩ (.int .i64 A.worlds)).setCell ⟨w.heap.size, 1, none⟩ (.slice va A.val.length vc)).setCell ⟨w.heap.size, 2, none⟩ (.slice ra A.rel.length rc)) w'' → RM w'' va ra A := fun w'' ag => HKA.out w'' fun k hk hl => (ag k (by omega) (by simp only [World.setCell, Array.size_modify]; omega)).trans (HBK.out k (by omega))
      have hkr : ∀ w'' : World, Agree w.heap.size (((w9.setCell ⟨w.heap.size, 0, none⟩ (.int .i64 A.worlds)).setCell ⟨w.heap.size, 1, none⟩ (.slice va A.val.length vc)).setCell ⟨w.heap.size, 2, none⟩ (.slice ra A.rel.length rc)) w'' → RII w'' la L := fun w'' ag => HRI.out w'' fun k hk hl => (ag k (by omega) (by simp only [World.setCell, Array.size_modify]; have := (HX2.out.trans (HXr.out.trans HXD.out)).size; omega)).trans ((HBK.out k (by omega)).trans ((HX2.out.trans (HXr.out.trans HXD.out)).block k hl))
      have hEx : Ext w (((w9.setCell ⟨w.heap.size, 0, none⟩ (.int .i64 A.worlds)).setCell ⟨w.heap.size, 1, none⟩ (.slice va A.val.length vc)).setCell ⟨w.heap.size, 2, none⟩ (.slice ra A.rel.length rc)) := ext_set3Z (HE.out.trans HX9.out) (by omega) _ _ _
      have ho : OutAt w9 w.heap.size (.int .i64 0) (.slice none 0 0) (.slice none 0 0) := HO9.out
      obtain ⟨e0, e1, e2, -⟩ := ((ho.set0 (.int .i64 A.worlds)).set1 (.slice va A.val.length vc)).set2 (.slice ra A.rel.length rc)
      generalize ((w9.setCell ⟨w.heap.size, 0, none⟩ (.int .i64 A.worlds)).setCell ⟨w.heap.size, 1, none⟩ (.slice va A.val.length vc)).setCell ⟨w.heap.size, 2, none⟩ (.slice ra A.rel.length rc) = W2 at *
      refine bodyPost_ret (v := .tuple #[.agg #[.int .i64 A.worlds, .slice va A.val.length vc, .slice ra A.rel.length rc], .slice la L.length lc, .int .i64 0]) ?_ rfl ?_
      · rw [results_cell_two rfl]
        go_simp
      · rw [← HAe.out, show deaL p C = L from HLe.out.symm]
        exact ⟨va, ra, la, vc, rc, lc, rfl, hkm, hkr, hEx⟩
theorem deal_any (p C : Nat) (hp : 1 ≤ p) (hC : C ≤ 4) (hpC : p ≤ C) (w : World) : Calls Tryz.prog 20 #[.int .i64 (p : Int), .int .i64 (C : Int)] w fun e w' => RetDl (deaM p C) (deaL p C) 0 e w w' := (deal_own p C hp hC hpC w).mono fun _ _ h => h.dl
end Wt

/- Turns of a dialogue in memory; the plain laws of a dialogue's steps. -/
namespace Wt
open Go Go.RowKit Go.Maps Go.Proofs Fm

/-- A slice of turns. -/
structure RTu (w : World) (a : Option Addr) (l : List (Bool × Nat)) : Prop where
  len : l.length ≤ 140737488355328
  at_ : ∀ k, k < l.length → ∃ b off, a = some ⟨b, off, none⟩ ∧ w.cell? ⟨b, off + k * 2, none⟩ = some (.bool (nth l k).1) ∧ w.cell? ⟨b, off + k * 2 + 1, none⟩ = some (.int .i64 ((nth l k).2 : Int))
theorem RTu.ext {w w' : World} (h : Ext w w') {a : Option Addr} {l : List (Bool × Nat)} (r : RTu w a l) : RTu w' a l := ⟨r.len, fun k hk => let ⟨b, off, e, c, d⟩ := r.at_ k hk; ⟨b, off, e, h.cell c, h.cell d⟩⟩
theorem RTu.nil (w : World) (a : Option Addr) : RTu w a [] := ⟨by simp, fun _ hk => absurd hk (by simp)⟩
def tuCells (p : Bool × Nat) : List Value := [.bool p.1, .int .i64 (p.2 : Int)]
def rowT (l : List (Bool × Nat)) : List Value := l.flatMap tuCells
theorem rowT_length (l : List (Bool × Nat)) : (rowT l).length = l.length * 2 := by
  unfold rowT; induction l with
  | nil => rfl
  | cons a l ih => rw [List.flatMap_cons, List.length_append, ih, List.length_cons]; simp [tuCells]; omega
theorem rowT_get (l : List (Bool × Nat)) (k j : Nat) (hk : k < l.length) (hj : j < 2) : (rowT l)[k * 2 + j]? = (tuCells (nth l k))[j]? := by
  induction l generalizing k with
  | nil => simp at hk
  | cons a l ih =>
    have hs : rowT (a :: l) = tuCells a ++ rowT l := rfl
    rw [hs]
    cases k with
    | zero =>
      rw [Nat.zero_mul, Nat.zero_add, List.getElem?_append_left (by simpa [tuCells] using hj)]; rfl
    | succ k =>
      rw [List.getElem?_append_right (by simp [tuCells]; omega)]
      have : (k + 1) * 2 + j - (tuCells a).length = k * 2 + j := by simp [tuCells]; omega
      rw [this, ih k (by simpa using hk)]
      rfl
theorem rowT_append (l m : List (Bool × Nat)) : rowT (l ++ m) = rowT l ++ rowT m := by simp [rowT]
theorem RTu_of_own {w : World} {base e : Nat} {v : Value} {l : List (Bool × Nat)} (h : w.ownsRow base e 2 v l.length (rowT l)) (hl : l.length ≤ 140737488355328) : ∃ a c, v = .slice a l.length c ∧ RTu w a l := by
  rcases h.2 with ⟨rfl, h0⟩ | ⟨g, cap, cur, rfl, hb, hg, hnc, hcm, hcs, htake⟩
  · have : l = [] := List.eq_nil_of_length_eq_zero h0
    subst this
    exact ⟨none, 0, rfl, RTu.nil _ _⟩
  · have key : ∀ k j, k < l.length → j < 2 → w.cell? ⟨g, 0 + (k * 2 + j), none⟩ = (tuCells (nth l k))[j]? := fun k j hk hj => by
      rw [cell_of_row w g _ cur e (0, 0) hg, Nat.zero_add, ← rowT_get l k j hk hj, ← htake, List.getElem?_take, if_pos (by omega)]
      simp
    refine ⟨some ⟨g, 0, none⟩, cap, rfl, hl, fun k hk => ⟨g, 0, rfl, ?_, ?_⟩⟩
    · have := key k 0 hk (by omega)
      simpa [tuCells] using this
    · have := key k 1 hk (by omega)
      simpa [tuCells, Nat.add_assoc] using this
theorem turn_news (w : World) (a : Bool) (b : Nat) (T : Nat) : ∀ j u, (tuCells (a, b))[j]? = some u → (w.alloc (.cells #[.bool a, .int .i64 (b : Int)] T)).cell? ((⟨w.heap.size, 0, none⟩ : Addr).add j) = some u := by
  intro j u hj
  rw [Addr.add_lit, Nat.zero_add]
  match j, hj with
  | 0, hj => simp [tuCells] at hj; subst hj; simp
  | 1, hj => simp [tuCells] at hj; subst hj; simp
  | j + 2, hj => simp [tuCells] at hj
theorem turn_one (p : Bool × Nat) : ∀ u ∈ tuCells p, u.oneCell' = true := by
  intro u hu
  simp only [tuCells, List.mem_cons, List.not_mem_nil, or_false] at hu
  rcases hu with rfl | rfl <;> rfl
theorem turn_info : (Tryz.prog.info? 60).map (fun i => (i.zero, i.size, i.bytes)) = some (some (.agg #[.bool false, .int .i64 0]), 2, 16) := by kernel_rfl
/-- The turns under way, in a slot, above a block that may be written. -/
structure TuV (B : Nat) (l : List (Bool × Nat)) (v : Value) (w : World) : Prop where
  own : w.ownsRow B 60 2 v l.length (rowT l)
section
variable {B : Nat} {w w' W1 : World} {l : List (Bool × Nat)} {v v' : Value}
theorem TuV.new (B : Nat) (w : World) : TuV B [] (.slice none 0 0) w := ⟨World.ownsRow_nil _ _ _ _⟩
theorem TuV.ext' (h : TuV B l v w) (e : Ext w w') : TuV B l v w' := ⟨h.own.kept (row := none) ⟨e.os, e.tape, e.output, e.size, fun k hk _ => e.block k hk⟩ (by simp only [Value.ownBlock]; exact Classical.em _)⟩
theorem TuV.set (h : TuV B l v w) {b k : Nat} {u : Value} (hb : b < B) : TuV B l v (w.setCell ⟨b, k, none⟩ u) := ⟨setOther h.own hb⟩
theorem TuV.push (_h : TuV B l v w) {p : Bool × Nat} (ho : W1.ownsRow B 60 2 v' (l.length + 1) (rowT l ++ tuCells p)) : TuV B (l ++ [p]) v' W1 := by
  refine ⟨?_⟩
  rw [rowT_append, List.length_append]
  simpa [rowT] using ho
theorem TuV.rt (h : TuV B l v w) (hl : l.length ≤ 1000) : ∃ a c, v = .slice a l.length c ∧ RTu w a l := RTu_of_own h.own (by omega)
end
/-! A dialogue's steps. -/
def playC (pre : List (Bool × Nat)) (r : List (Bool × Nat) × Int) : List (Bool × Nat) × Int := if r.2 ≠ 0 then ([], r.2) else (pre ++ r.1, 0)
theorem playC_nil (r : List (Bool × Nat) × Int) (h : r.2 ≠ 0 → r.1 = []) : playC [] r = r := by
  obtain ⟨l, c⟩ := r
  unfold playC
  by_cases hc : c = 0
  · subst hc; simp
  · rw [if_pos hc]
    dsimp only at h ⊢
    rw [h hc]
theorem playR_err : ∀ (l : List (List Nd)) (A : Mo) (x : Nat), (playR A x l).2 ≠ 0 → (playR A x l).1 = []
  | [], _, _, h => absurd rfl h
  | f :: l, A, x, h => by
    unfold playR at h ⊢
    split
    · rfl
    · next h1 =>
      rw [if_neg h1] at h
      split
      · next h2 => rw [if_pos h2] at h; exact absurd rfl h
      · next h2 =>
        rw [if_neg h2] at h
        dsimp only at h ⊢
        split
        · rfl
        · next h3 => rw [if_neg h3] at h; exact absurd rfl h
theorem playR_bad {A : Mo} {x : Nat} {f : List Nd} {l : List (List Nd)} (h : atErr A x f ≠ 0) (pre : List (Bool × Nat)) : playC pre (playR A x (f :: l)) = ([], atErr A x f) := by
  have e : playR A x (f :: l) = ([], atErr A x f) := by unfold playR; rw [if_pos h]
  rw [e]
  exact if_pos h
theorem playR_no {A : Mo} {x : Nat} {f : List Nd} {l : List (List Nd)} (h : atErr A x f = 0) (h2 : atOf A x f = false) (pre : List (Bool × Nat)) : playC pre (playR A x (f :: l)) = (pre ++ [(false, A.worlds.toNat)], 0) := by
  have e : playR A x (f :: l) = ([(false, A.worlds.toNat)], 0) := by unfold playR; rw [if_neg (by simp [h]), if_pos h2]
  rw [e]
  exact if_neg (by simp)
theorem playR_yes {A : Mo} {x : Nat} {f : List Nd} {l : List (List Nd)} (h : atErr A x f = 0) (h2 : atOf A x f = true) (pre : List (Bool × Nat)) : playC pre (playR A x (f :: l)) = playC (pre ++ [(true, (upM A f).worlds.toNat)]) (playR (upM A f) (posI (upL A f) x).toNat l) := by
  have e : playR A x (f :: l) = if (playR (upM A f) (posI (upL A f) x).toNat l).2 ≠ 0 then ([], (playR (upM A f) (posI (upL A f) x).toNat l).2) else ((true, (upM A f).worlds.toNat) :: (playR (upM A f) (posI (upL A f) x).toNat l).1, 0) := by
    conv => lhs; unfold playR
    rw [if_neg (by simp [h]), if_neg (by simp [h2])]
  rw [e]
  generalize playR (upM A f) (posI (upL A f) x).toNat l = r
  unfold playC
  by_cases hr : r.2 = 0
  · simp [hr]
  · simp [hr]
end Wt
