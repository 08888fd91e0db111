/- Walks: wittingref05.node, patterns 3 to 5 (printed by gen_rfb.py). -/
import Derived.Test.YtoacdccachhjdaaGreatDoorMAEa
namespace Wt
open Go Go.RowKit Go.Maps Go.Proofs Fm

set_option maxRecDepth 20000 in
set_option maxHeartbeats 4000000 in
theorem r5node_3 (op i ev g x y a fr : Int) (w : World) (h1 : 1 ≤ op) (h2 : op ≤ 21) (hu : useOf op = (⟨true,true,false,false,false,false,fr⟩, true)) :
    Calls Tryz.prog 129 #[.agg #[.int .i64 op, .int .i64 i, .int .i64 ev, .int .i64 g, .int .i64 x, .int .i64 y], .int .i64 a] w fun e w' => e = .returned (.int .i64 (nodeErr ⟨op, i, ev, g, x, y⟩ a)) ∧ Ext w w' := by
  have hN := nodeErr_of ⟨op, i, ev, g, x, y⟩ a _ hu
  dsimp only at hN
  have e3 : (op == 3) = false := by rw [← r5f_eq, hu]
  have e17 : (op == 17) = false := by rw [← r5e_eq, hu]
  have n17 : (op != 17) = true := by rw [bne, e17]; rfl
  have HU := Lib.hid hu
  have HN := Lib.hid hN
  clear hu hN
  by_cases c2 : x < 0
  · have hv : _ = (3 : Int) := HN.out.trans (by simp [opnd, needless, wide, outs]; try omega)
    have HV := Lib.hid hv
    clear hv
    go_enter Tryz.func129, Tryz.ntmps129
    go_wp2_with (first | (go_at_call 127; refine (r5X_any _ _).mono ?_; rintro _ _ ⟨rfl, rfl⟩; rw [HU.out]) | (go_at_call 128; refine (r5Y_any _ _).mono ?_; rintro _ _ ⟨rfl, rfl⟩; rw [HU.out]) | (go_at_call 163; refine (r5A_any _ _).mono ?_; rintro _ _ ⟨rfl, rfl⟩; rw [HU.out]) | (go_at_call 164; refine (r5G_any _ _).mono ?_; rintro _ _ ⟨rfl, rfl⟩; rw [HU.out]))
    go_ret
    exact ⟨by rw [HV.out]; rfl, (Ext.refl w).alloc _⟩
  · skip
    by_cases c4 : a ≤ x
    · have hv : _ = (3 : Int) := HN.out.trans (by simp [opnd, needless, wide, outs]; try omega)
      have HV := Lib.hid hv
      clear hv
      go_enter Tryz.func129, Tryz.ntmps129
      go_wp2_with (first | (go_at_call 127; refine (r5X_any _ _).mono ?_; rintro _ _ ⟨rfl, rfl⟩; rw [HU.out]) | (go_at_call 128; refine (r5Y_any _ _).mono ?_; rintro _ _ ⟨rfl, rfl⟩; rw [HU.out]) | (go_at_call 163; refine (r5A_any _ _).mono ?_; rintro _ _ ⟨rfl, rfl⟩; rw [HU.out]) | (go_at_call 164; refine (r5G_any _ _).mono ?_; rintro _ _ ⟨rfl, rfl⟩; rw [HU.out]))
      go_ret
      exact ⟨by rw [HV.out]; rfl, (Ext.refl w).alloc _⟩
    · skip
      by_cases c6 : y < 0
      · have hv : _ = (3 : Int) := HN.out.trans (by simp [opnd, needless, wide, outs]; try omega)
        have HV := Lib.hid hv
        clear hv
        go_enter Tryz.func129, Tryz.ntmps129
        go_wp2_with (first | (go_at_call 127; refine (r5X_any _ _).mono ?_; rintro _ _ ⟨rfl, rfl⟩; rw [HU.out]) | (go_at_call 128; refine (r5Y_any _ _).mono ?_; rintro _ _ ⟨rfl, rfl⟩; rw [HU.out]) | (go_at_call 163; refine (r5A_any _ _).mono ?_; rintro _ _ ⟨rfl, rfl⟩; rw [HU.out]) | (go_at_call 164; refine (r5G_any _ _).mono ?_; rintro _ _ ⟨rfl, rfl⟩; rw [HU.out]))
        go_ret
        exact ⟨by rw [HV.out]; rfl, (Ext.refl w).alloc _⟩
      · skip
        by_cases c8 : a ≤ y
        · have hv : _ = (3 : Int) := HN.out.trans (by simp [opnd, c8]; try omega)
          have HV := Lib.hid hv
          clear hv
          go_enter Tryz.func129, Tryz.ntmps129
          go_wp2_with (first | (go_at_call 127; refine (r5X_any _ _).mono ?_; rintro _ _ ⟨rfl, rfl⟩; rw [HU.out]) | (go_at_call 128; refine (r5Y_any _ _).mono ?_; rintro _ _ ⟨rfl, rfl⟩; rw [HU.out]) | (go_at_call 163; refine (r5A_any _ _).mono ?_; rintro _ _ ⟨rfl, rfl⟩; rw [HU.out]) | (go_at_call 164; refine (r5G_any _ _).mono ?_; rintro _ _ ⟨rfl, rfl⟩; rw [HU.out]))
          go_ret
          exact ⟨by rw [HV.out]; rfl, (Ext.refl w).alloc _⟩
        · skip
          by_cases c10 : i = 0
          · subst i
            by_cases c12 : ev = 0
            · subst ev
              by_cases c14 : g = 0
              · subst g
                have hv : _ = (0 : Int) := HN.out.trans (by simp [opnd, needless, wide, outs, c2, c4, c6, c8]; try omega)
                have HV := Lib.hid hv
                clear hv
                go_enter Tryz.func129, Tryz.ntmps129
                go_wp2_with (first | (go_at_call 127; refine (r5X_any _ _).mono ?_; rintro _ _ ⟨rfl, rfl⟩; rw [HU.out]) | (go_at_call 128; refine (r5Y_any _ _).mono ?_; rintro _ _ ⟨rfl, rfl⟩; rw [HU.out]) | (go_at_call 163; refine (r5A_any _ _).mono ?_; rintro _ _ ⟨rfl, rfl⟩; rw [HU.out]) | (go_at_call 164; refine (r5G_any _ _).mono ?_; rintro _ _ ⟨rfl, rfl⟩; rw [HU.out]))
                go_ret
                exact ⟨by rw [HV.out]; rfl, (Ext.refl w).alloc _⟩
              · have hv : _ = (3 : Int) := HN.out.trans (by simp [opnd, needless, c2, c4, c6, c8, c14]; try omega)
                have HV := Lib.hid hv
                clear hv
                have ne : (g != 0) = true := by simp [c14]
                go_enter Tryz.func129, Tryz.ntmps129
                go_wp2_with (first | (go_at_call 127; refine (r5X_any _ _).mono ?_; rintro _ _ ⟨rfl, rfl⟩; rw [HU.out]) | (go_at_call 128; refine (r5Y_any _ _).mono ?_; rintro _ _ ⟨rfl, rfl⟩; rw [HU.out]) | (go_at_call 163; refine (r5A_any _ _).mono ?_; rintro _ _ ⟨rfl, rfl⟩; rw [HU.out]) | (go_at_call 164; refine (r5G_any _ _).mono ?_; rintro _ _ ⟨rfl, rfl⟩; rw [HU.out]))
                go_ret
                exact ⟨by rw [HV.out]; rfl, (Ext.refl w).alloc _⟩
            · have hv : _ = (3 : Int) := HN.out.trans (by simp [opnd, needless, c2, c4, c6, c8, c12]; try omega)
              have HV := Lib.hid hv
              clear hv
              have ne : (ev != 0) = true := by simp [c12]
              go_enter Tryz.func129, Tryz.ntmps129
              go_wp2_with (first | (go_at_call 127; refine (r5X_any _ _).mono ?_; rintro _ _ ⟨rfl, rfl⟩; rw [HU.out]) | (go_at_call 128; refine (r5Y_any _ _).mono ?_; rintro _ _ ⟨rfl, rfl⟩; rw [HU.out]) | (go_at_call 163; refine (r5A_any _ _).mono ?_; rintro _ _ ⟨rfl, rfl⟩; rw [HU.out]) | (go_at_call 164; refine (r5G_any _ _).mono ?_; rintro _ _ ⟨rfl, rfl⟩; rw [HU.out]))
              go_ret
              exact ⟨by rw [HV.out]; rfl, (Ext.refl w).alloc _⟩
          · have hv : _ = (3 : Int) := HN.out.trans (by simp [opnd, needless, c2, c4, c6, c8, c10]; try omega)
            have HV := Lib.hid hv
            clear hv
            have ne : (i != 0) = true := by simp [c10]
            go_enter Tryz.func129, Tryz.ntmps129
            go_wp2_with (first | (go_at_call 127; refine (r5X_any _ _).mono ?_; rintro _ _ ⟨rfl, rfl⟩; rw [HU.out]) | (go_at_call 128; refine (r5Y_any _ _).mono ?_; rintro _ _ ⟨rfl, rfl⟩; rw [HU.out]) | (go_at_call 163; refine (r5A_any _ _).mono ?_; rintro _ _ ⟨rfl, rfl⟩; rw [HU.out]) | (go_at_call 164; refine (r5G_any _ _).mono ?_; rintro _ _ ⟨rfl, rfl⟩; rw [HU.out]))
            go_ret
            exact ⟨by rw [HV.out]; rfl, (Ext.refl w).alloc _⟩
set_option maxRecDepth 20000 in
set_option maxHeartbeats 4000000 in
theorem r5node_4 (op i ev g x y a fr : Int) (w : World) (h1 : 1 ≤ op) (h2 : op ≤ 21) (hu : useOf op = (⟨true,false,false,true,false,false,fr⟩, true)) :
    Calls Tryz.prog 129 #[.agg #[.int .i64 op, .int .i64 i, .int .i64 ev, .int .i64 g, .int .i64 x, .int .i64 y], .int .i64 a] w fun e w' => e = .returned (.int .i64 (nodeErr ⟨op, i, ev, g, x, y⟩ a)) ∧ Ext w w' := by
  have hN := nodeErr_of ⟨op, i, ev, g, x, y⟩ a _ hu
  dsimp only at hN
  have e3 : (op == 3) = false := by rw [← r5f_eq, hu]
  have e17 : (op == 17) = false := by rw [← r5e_eq, hu]
  have n17 : (op != 17) = true := by rw [bne, e17]; rfl
  have HU := Lib.hid hu
  have HN := Lib.hid hN
  clear hu hN
  by_cases c2 : x < 0
  · have hv : _ = (3 : Int) := HN.out.trans (by simp [opnd, needless, wide, outs]; try omega)
    have HV := Lib.hid hv
    clear hv
    go_enter Tryz.func129, Tryz.ntmps129
    go_wp2_with (first | (go_at_call 127; refine (r5X_any _ _).mono ?_; rintro _ _ ⟨rfl, rfl⟩; rw [HU.out]) | (go_at_call 128; refine (r5Y_any _ _).mono ?_; rintro _ _ ⟨rfl, rfl⟩; rw [HU.out]) | (go_at_call 163; refine (r5A_any _ _).mono ?_; rintro _ _ ⟨rfl, rfl⟩; rw [HU.out]) | (go_at_call 164; refine (r5G_any _ _).mono ?_; rintro _ _ ⟨rfl, rfl⟩; rw [HU.out]))
    go_ret
    exact ⟨by rw [HV.out]; rfl, (Ext.refl w).alloc _⟩
  · skip
    by_cases c4 : a ≤ x
    · have hv : _ = (3 : Int) := HN.out.trans (by simp [opnd, needless, wide, outs]; try omega)
      have HV := Lib.hid hv
      clear hv
      go_enter Tryz.func129, Tryz.ntmps129
      go_wp2_with (first | (go_at_call 127; refine (r5X_any _ _).mono ?_; rintro _ _ ⟨rfl, rfl⟩; rw [HU.out]) | (go_at_call 128; refine (r5Y_any _ _).mono ?_; rintro _ _ ⟨rfl, rfl⟩; rw [HU.out]) | (go_at_call 163; refine (r5A_any _ _).mono ?_; rintro _ _ ⟨rfl, rfl⟩; rw [HU.out]) | (go_at_call 164; refine (r5G_any _ _).mono ?_; rintro _ _ ⟨rfl, rfl⟩; rw [HU.out]))
      go_ret
      exact ⟨by rw [HV.out]; rfl, (Ext.refl w).alloc _⟩
    · skip
      by_cases c6 : y = 0
      · subst y
        by_cases c8 : ev = 0
        · subst ev
          by_cases c10 : g = 0
          · subst g
            by_cases c12 : i < 0
            · have hv : _ = (2 : Int) := HN.out.trans (by simp [opnd, needless, wide, outs, c2, c4, c12]; try omega)
              have HV := Lib.hid hv
              clear hv
              go_enter Tryz.func129, Tryz.ntmps129
              go_wp2_with (first | (go_at_call 127; refine (r5X_any _ _).mono ?_; rintro _ _ ⟨rfl, rfl⟩; rw [HU.out]) | (go_at_call 128; refine (r5Y_any _ _).mono ?_; rintro _ _ ⟨rfl, rfl⟩; rw [HU.out]) | (go_at_call 163; refine (r5A_any _ _).mono ?_; rintro _ _ ⟨rfl, rfl⟩; rw [HU.out]) | (go_at_call 164; refine (r5G_any _ _).mono ?_; rintro _ _ ⟨rfl, rfl⟩; rw [HU.out]))
              go_ret
              exact ⟨by rw [HV.out]; rfl, (Ext.refl w).alloc _⟩
            · skip
              by_cases c14 : 4 ≤ i
              · have hv : _ = (2 : Int) := HN.out.trans (by simp [opnd, needless, wide, outs, c2, c4, c12]; try omega)
                have HV := Lib.hid hv
                clear hv
                go_enter Tryz.func129, Tryz.ntmps129
                go_wp2_with (first | (go_at_call 127; refine (r5X_any _ _).mono ?_; rintro _ _ ⟨rfl, rfl⟩; rw [HU.out]) | (go_at_call 128; refine (r5Y_any _ _).mono ?_; rintro _ _ ⟨rfl, rfl⟩; rw [HU.out]) | (go_at_call 163; refine (r5A_any _ _).mono ?_; rintro _ _ ⟨rfl, rfl⟩; rw [HU.out]) | (go_at_call 164; refine (r5G_any _ _).mono ?_; rintro _ _ ⟨rfl, rfl⟩; rw [HU.out]))
                go_ret
                exact ⟨by rw [HV.out]; rfl, (Ext.refl w).alloc _⟩
              · skip
                have hv : _ = (0 : Int) := HN.out.trans (by simp [opnd, needless, wide, outs, c2, c4, c12]; try omega)
                have HV := Lib.hid hv
                clear hv
                go_enter Tryz.func129, Tryz.ntmps129
                go_wp2_with (first | (go_at_call 127; refine (r5X_any _ _).mono ?_; rintro _ _ ⟨rfl, rfl⟩; rw [HU.out]) | (go_at_call 128; refine (r5Y_any _ _).mono ?_; rintro _ _ ⟨rfl, rfl⟩; rw [HU.out]) | (go_at_call 163; refine (r5A_any _ _).mono ?_; rintro _ _ ⟨rfl, rfl⟩; rw [HU.out]) | (go_at_call 164; refine (r5G_any _ _).mono ?_; rintro _ _ ⟨rfl, rfl⟩; rw [HU.out]))
                go_ret
                exact ⟨by rw [HV.out]; rfl, (Ext.refl w).alloc _⟩
          · have hv : _ = (3 : Int) := HN.out.trans (by simp [opnd, needless, c2, c4, c10]; try omega)
            have HV := Lib.hid hv
            clear hv
            have ne : (g != 0) = true := by simp [c10]
            go_enter Tryz.func129, Tryz.ntmps129
            go_wp2_with (first | (go_at_call 127; refine (r5X_any _ _).mono ?_; rintro _ _ ⟨rfl, rfl⟩; rw [HU.out]) | (go_at_call 128; refine (r5Y_any _ _).mono ?_; rintro _ _ ⟨rfl, rfl⟩; rw [HU.out]) | (go_at_call 163; refine (r5A_any _ _).mono ?_; rintro _ _ ⟨rfl, rfl⟩; rw [HU.out]) | (go_at_call 164; refine (r5G_any _ _).mono ?_; rintro _ _ ⟨rfl, rfl⟩; rw [HU.out]))
            go_ret
            exact ⟨by rw [HV.out]; rfl, (Ext.refl w).alloc _⟩
        · have hv : _ = (3 : Int) := HN.out.trans (by simp [opnd, needless, c2, c4, c8]; try omega)
          have HV := Lib.hid hv
          clear hv
          have ne : (ev != 0) = true := by simp [c8]
          go_enter Tryz.func129, Tryz.ntmps129
          go_wp2_with (first | (go_at_call 127; refine (r5X_any _ _).mono ?_; rintro _ _ ⟨rfl, rfl⟩; rw [HU.out]) | (go_at_call 128; refine (r5Y_any _ _).mono ?_; rintro _ _ ⟨rfl, rfl⟩; rw [HU.out]) | (go_at_call 163; refine (r5A_any _ _).mono ?_; rintro _ _ ⟨rfl, rfl⟩; rw [HU.out]) | (go_at_call 164; refine (r5G_any _ _).mono ?_; rintro _ _ ⟨rfl, rfl⟩; rw [HU.out]))
          go_ret
          exact ⟨by rw [HV.out]; rfl, (Ext.refl w).alloc _⟩
      · have hv : _ = (3 : Int) := HN.out.trans (by simp [opnd, c6]; try omega)
        have HV := Lib.hid hv
        clear hv
        have ne : (y != 0) = true := by simp [c6]
        go_enter Tryz.func129, Tryz.ntmps129
        go_wp2_with (first | (go_at_call 127; refine (r5X_any _ _).mono ?_; rintro _ _ ⟨rfl, rfl⟩; rw [HU.out]) | (go_at_call 128; refine (r5Y_any _ _).mono ?_; rintro _ _ ⟨rfl, rfl⟩; rw [HU.out]) | (go_at_call 163; refine (r5A_any _ _).mono ?_; rintro _ _ ⟨rfl, rfl⟩; rw [HU.out]) | (go_at_call 164; refine (r5G_any _ _).mono ?_; rintro _ _ ⟨rfl, rfl⟩; rw [HU.out]))
        go_ret
        exact ⟨by rw [HV.out]; rfl, (Ext.refl w).alloc _⟩
set_option maxRecDepth 20000 in
set_option maxHeartbeats 4000000 in
theorem r5node_5 (op i ev g x y a fr : Int) (w : World) (h1 : 1 ≤ op) (h2 : op ≤ 21) (hu : useOf op = (⟨true,false,false,false,true,false,fr⟩, true)) :
    Calls Tryz.prog 129 #[.agg #[.int .i64 op, .int .i64 i, .int .i64 ev, .int .i64 g, .int .i64 x, .int .i64 y], .int .i64 a] w fun e w' => e = .returned (.int .i64 (nodeErr ⟨op, i, ev, g, x, y⟩ a)) ∧ Ext w w' := by
  have hN := nodeErr_of ⟨op, i, ev, g, x, y⟩ a _ hu
  dsimp only at hN
  have e3 : (op == 3) = false := by rw [← r5f_eq, hu]
  have e17 : (op == 17) = false := by rw [← r5e_eq, hu]
  have n17 : (op != 17) = true := by rw [bne, e17]; rfl
  have HU := Lib.hid hu
  have HN := Lib.hid hN
  clear hu hN
  by_cases c2 : x < 0
  · have hv : _ = (3 : Int) := HN.out.trans (by simp [opnd, needless, wide, outs]; try omega)
    have HV := Lib.hid hv
    clear hv
    go_enter Tryz.func129, Tryz.ntmps129
    go_wp2_with (first | (go_at_call 127; refine (r5X_any _ _).mono ?_; rintro _ _ ⟨rfl, rfl⟩; rw [HU.out]) | (go_at_call 128; refine (r5Y_any _ _).mono ?_; rintro _ _ ⟨rfl, rfl⟩; rw [HU.out]) | (go_at_call 163; refine (r5A_any _ _).mono ?_; rintro _ _ ⟨rfl, rfl⟩; rw [HU.out]) | (go_at_call 164; refine (r5G_any _ _).mono ?_; rintro _ _ ⟨rfl, rfl⟩; rw [HU.out]))
    go_ret
    exact ⟨by rw [HV.out]; rfl, (Ext.refl w).alloc _⟩
  · skip
    by_cases c4 : a ≤ x
    · have hv : _ = (3 : Int) := HN.out.trans (by simp [opnd, needless, wide, outs]; try omega)
      have HV := Lib.hid hv
      clear hv
      go_enter Tryz.func129, Tryz.ntmps129
      go_wp2_with (first | (go_at_call 127; refine (r5X_any _ _).mono ?_; rintro _ _ ⟨rfl, rfl⟩; rw [HU.out]) | (go_at_call 128; refine (r5Y_any _ _).mono ?_; rintro _ _ ⟨rfl, rfl⟩; rw [HU.out]) | (go_at_call 163; refine (r5A_any _ _).mono ?_; rintro _ _ ⟨rfl, rfl⟩; rw [HU.out]) | (go_at_call 164; refine (r5G_any _ _).mono ?_; rintro _ _ ⟨rfl, rfl⟩; rw [HU.out]))
      go_ret
      exact ⟨by rw [HV.out]; rfl, (Ext.refl w).alloc _⟩
    · skip
      by_cases c6 : y = 0
      · subst y
        by_cases c8 : i = 0
        · subst i
          by_cases c10 : ev = 0
          · subst ev
            by_cases c12 : g < 1
            · have hv : _ = (2 : Int) := HN.out.trans (by simp [opnd, needless, wide, outs, c2, c4, c12]; try omega)
              have HV := Lib.hid hv
              clear hv
              go_enter Tryz.func129, Tryz.ntmps129
              go_wp2_with (first | (go_at_call 127; refine (r5X_any _ _).mono ?_; rintro _ _ ⟨rfl, rfl⟩; rw [HU.out]) | (go_at_call 128; refine (r5Y_any _ _).mono ?_; rintro _ _ ⟨rfl, rfl⟩; rw [HU.out]) | (go_at_call 163; refine (r5A_any _ _).mono ?_; rintro _ _ ⟨rfl, rfl⟩; rw [HU.out]) | (go_at_call 164; refine (r5G_any _ _).mono ?_; rintro _ _ ⟨rfl, rfl⟩; rw [HU.out]))
              go_ret
              exact ⟨by rw [HV.out]; rfl, (Ext.refl w).alloc _⟩
            · skip
              by_cases c14 : 16 ≤ g
              · have hv : _ = (2 : Int) := HN.out.trans (by simp [opnd, needless, wide, outs, c2, c4, c12]; try omega)
                have HV := Lib.hid hv
                clear hv
                go_enter Tryz.func129, Tryz.ntmps129
                go_wp2_with (first | (go_at_call 127; refine (r5X_any _ _).mono ?_; rintro _ _ ⟨rfl, rfl⟩; rw [HU.out]) | (go_at_call 128; refine (r5Y_any _ _).mono ?_; rintro _ _ ⟨rfl, rfl⟩; rw [HU.out]) | (go_at_call 163; refine (r5A_any _ _).mono ?_; rintro _ _ ⟨rfl, rfl⟩; rw [HU.out]) | (go_at_call 164; refine (r5G_any _ _).mono ?_; rintro _ _ ⟨rfl, rfl⟩; rw [HU.out]))
                go_ret
                exact ⟨by rw [HV.out]; rfl, (Ext.refl w).alloc _⟩
              · skip
                have hv : _ = (0 : Int) := HN.out.trans (by simp [opnd, needless, wide, outs, c2, c4, c12]; try omega)
                have HV := Lib.hid hv
                clear hv
                go_enter Tryz.func129, Tryz.ntmps129
                go_wp2_with (first | (go_at_call 127; refine (r5X_any _ _).mono ?_; rintro _ _ ⟨rfl, rfl⟩; rw [HU.out]) | (go_at_call 128; refine (r5Y_any _ _).mono ?_; rintro _ _ ⟨rfl, rfl⟩; rw [HU.out]) | (go_at_call 163; refine (r5A_any _ _).mono ?_; rintro _ _ ⟨rfl, rfl⟩; rw [HU.out]) | (go_at_call 164; refine (r5G_any _ _).mono ?_; rintro _ _ ⟨rfl, rfl⟩; rw [HU.out]))
                go_ret
                exact ⟨by rw [HV.out]; rfl, (Ext.refl w).alloc _⟩
          · have hv : _ = (3 : Int) := HN.out.trans (by simp [opnd, needless, c2, c4, c10]; try omega)
            have HV := Lib.hid hv
            clear hv
            have ne : (ev != 0) = true := by simp [c10]
            go_enter Tryz.func129, Tryz.ntmps129
            go_wp2_with (first | (go_at_call 127; refine (r5X_any _ _).mono ?_; rintro _ _ ⟨rfl, rfl⟩; rw [HU.out]) | (go_at_call 128; refine (r5Y_any _ _).mono ?_; rintro _ _ ⟨rfl, rfl⟩; rw [HU.out]) | (go_at_call 163; refine (r5A_any _ _).mono ?_; rintro _ _ ⟨rfl, rfl⟩; rw [HU.out]) | (go_at_call 164; refine (r5G_any _ _).mono ?_; rintro _ _ ⟨rfl, rfl⟩; rw [HU.out]))
            go_ret
            exact ⟨by rw [HV.out]; rfl, (Ext.refl w).alloc _⟩
        · have hv : _ = (3 : Int) := HN.out.trans (by simp [opnd, needless, c2, c4, c8]; try omega)
          have HV := Lib.hid hv
          clear hv
          have ne : (i != 0) = true := by simp [c8]
          go_enter Tryz.func129, Tryz.ntmps129
          go_wp2_with (first | (go_at_call 127; refine (r5X_any _ _).mono ?_; rintro _ _ ⟨rfl, rfl⟩; rw [HU.out]) | (go_at_call 128; refine (r5Y_any _ _).mono ?_; rintro _ _ ⟨rfl, rfl⟩; rw [HU.out]) | (go_at_call 163; refine (r5A_any _ _).mono ?_; rintro _ _ ⟨rfl, rfl⟩; rw [HU.out]) | (go_at_call 164; refine (r5G_any _ _).mono ?_; rintro _ _ ⟨rfl, rfl⟩; rw [HU.out]))
          go_ret
          exact ⟨by rw [HV.out]; rfl, (Ext.refl w).alloc _⟩
      · have hv : _ = (3 : Int) := HN.out.trans (by simp [opnd, c6]; try omega)
        have HV := Lib.hid hv
        clear hv
        have ne : (y != 0) = true := by simp [c6]
        go_enter Tryz.func129, Tryz.ntmps129
        go_wp2_with (first | (go_at_call 127; refine (r5X_any _ _).mono ?_; rintro _ _ ⟨rfl, rfl⟩; rw [HU.out]) | (go_at_call 128; refine (r5Y_any _ _).mono ?_; rintro _ _ ⟨rfl, rfl⟩; rw [HU.out]) | (go_at_call 163; refine (r5A_any _ _).mono ?_; rintro _ _ ⟨rfl, rfl⟩; rw [HU.out]) | (go_at_call 164; refine (r5G_any _ _).mono ?_; rintro _ _ ⟨rfl, rfl⟩; rw [HU.out]))
        go_ret
        exact ⟨by rw [HV.out]; rfl, (Ext.refl w).alloc _⟩
end Wt
