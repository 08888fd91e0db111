/- Walks: checker.Holds, At, Valid. -/
import Derived.Test.YtdnpgadkklgjeaaDoorCkC
namespace Wt
open Go Go.RowKit Go.Proofs Fm

/-- The set of the whole formula. -/
def lastSet (M : Mo) (f : List Nd) : BitVec 64 := (semT M (trAt f (f.length - 1))).1
def holdsOf (M : Mo) (f : List Nd) : BitVec 64 := if reqErr M f = 0 then lastSet M f else 0#64
def RetP (v : Value) (c : Int) (e : Ending) (w w' : World) : Prop := e = .returned (.tuple #[v, .int .i64 c]) ∧ Ext w w'
set_option maxRecDepth 20000 in
set_option maxHeartbeats 1000000 in
theorem holds_any (M : Mo) (va ra : Option Addr) (vc rc : Nat) (fa : Option Addr) (fc : Nat) (f : List Nd) (w : World) (hm : RM w va ra M) (hf : RN w fa f) :
    Calls Tryd.prog 24 #[.agg #[.int .i64 M.worlds, .slice va M.val.length vc, .slice ra M.rel.length rc], .slice fa f.length fc] w fun e w' => RetP (.int .u64 (un (holdsOf M f))) (reqErr M f) e w w' := by
  have hE0 := (Ext.refl w).alloc (.cells #[.int .i64 M.worlds, .slice va M.val.length vc, .slice ra M.rel.length rc] 25)
  have H := Lib.hid (sets_any M va ra vc rc fa fc f _ (hm.ext hE0) (hf.ext hE0))
  have HE := Lib.hid hE0
  clear hE0 hm hf
  by_cases h : reqErr M f = 0
  · obtain ⟨h1, h2, _, _⟩ := reqErr_ok h
    obtain ⟨hf0, hf200, hw⟩ := fCheck_ok.1 h2
    have hN : holdsOf M f = lastSet M f := if_pos h
    have hS : setsOf M f = (List.range f.length).map (fun k => (semT M (trAt f k)).1) := if_pos h
    have hSl : (setsOf M f).length = f.length := by rw [hS]; simp
    have hSn : nth (setsOf M f) (f.length - 1) = lastSet M f := by
      rw [nth_eq _ _ (by omega)]
      simp [hS, lastSet]
    have HN := Lib.hid hN
    have HR := Lib.hid h
    have HS := Lib.hid hSn
    have HL := Lib.hid hSl
    clear h1 h2 hN h hS hSn hSl hw
    rename_i x1 x2
    clear x1 x2
    have hsub : IntKind.i64.wrap ((f.length : Int) - 1) = ((f.length - 1 : Nat) : Int) := by rw [IntWalk.i64_in _ (by omega)]; omega
    go_enter Tryd.func24, Tryd.ntmps24
    go_wp2_with (go_at_call 34; refine H.out.mono ?_; rintro e w1 ⟨a, c, rfl, hu, hE1⟩; obtain ⟨gb, goff, rfl, hgb, hgc⟩ := hu.get (k := f.length - 1) (by rw [HL.out]; omega); rw [HS.out] at hgc; rw [HL.out, HR.out])
    go_ret2
    exact ⟨by rw [HN.out, HR.out]; rfl, HE.out.trans hE1⟩
  · have hN : holdsOf M f = 0#64 := if_neg h
    have HN := Lib.hid hN
    have hq : (reqErr M f != 0) = true := by simp [h]
    clear hN h
    go_enter Tryd.func24, Tryd.ntmps24
    go_wp2_with (go_at_call 34; refine H.out.mono ?_; rintro e w1 ⟨a, c, rfl, hu, hE1⟩)
    go_ret2
    exact ⟨by rw [HN.out]; rfl, HE.out.trans hE1⟩
/-- Is a world one of a model's? -/
def inMo (M : Mo) (x : Int) : Bool := decide (0 ≤ x ∧ x < M.worlds)
def atErr (M : Mo) (x : Int) (f : List Nd) : Int := if reqErr M f ≠ 0 then reqErr M f else if inMo M x then 0 else 2
def atOf (M : Mo) (x : Int) (f : List Nd) : Bool := atErr M x f == 0 && bt (holdsOf M f) x.toNat
set_option maxRecDepth 20000 in
set_option maxHeartbeats 1000000 in
theorem at_any (M : Mo) (va ra : Option Addr) (vc rc : Nat) (x : Int) (fa : Option Addr) (fc : Nat) (f : List Nd) (w : World) (hm : RM w va ra M) (hf : RN w fa f) :
    Calls Tryd.prog 20 #[.agg #[.int .i64 M.worlds, .slice va M.val.length vc, .slice ra M.rel.length rc], .int .i64 x, .slice fa f.length fc] w fun e w' => RetP (.bool (atOf M x f)) (atErr M x f) e w w' := by
  have hE0 := (Ext.refl w).alloc (.cells #[.int .i64 M.worlds, .slice va M.val.length vc, .slice ra M.rel.length rc] 25)
  have H := Lib.hid (holds_any M va ra vc rc fa fc f _ (hm.ext hE0) (hf.ext hE0))
  obtain ⟨m0, m1, m2⟩ := MoBox.new w M.worlds M.val M.rel va vc ra rc 25
  have HE := Lib.hid hE0
  clear hE0 hm hf
  by_cases h : reqErr M f = 0
  · have HR := Lib.hid h
    by_cases h1 : x < 0
    · have hN : atErr M x f = 2 := by unfold atErr inMo; simp [h]; omega
      have hN2 : atOf M x f = false := by unfold atOf; simp [hN]
      have HN := Lib.hid hN
      have HN2 := Lib.hid hN2
      clear h hN hN2
      go_enter Tryd.func20, Tryd.ntmps20
      go_wp2_with (go_at_call 24; refine H.out.mono ?_; rintro e w1 ⟨rfl, hE1⟩; have q0 := hE1.cell m0; clear m0 m1 m2; rw [HR.out])
      go_ret2
      exact ⟨by rw [HN.out, HN2.out]; rfl, HE.out.trans hE1⟩
    · obtain ⟨k, rfl⟩ := Int.eq_ofNat_of_zero_le (show 0 ≤ x by omega)
      by_cases h2 : (k : Int) < M.worlds
      · have hN : atErr M k f = 0 := by unfold atErr inMo; simp [h]; omega
        have hN2 : atOf M k f = bt (holdsOf M f) k := by unfold atOf; simp [hN]
        have HN := Lib.hid hN
        have HN2 := Lib.hid hN2
        clear h hN hN2
        go_enter Tryd.func20, Tryd.ntmps20
        go_wp2_with (go_at_call 24; refine H.out.mono ?_; rintro e w1 ⟨rfl, hE1⟩; have q0 := hE1.cell m0; clear m0 m1 m2; rw [HR.out])
        go_ret2
        exact ⟨by rw [HN.out, HN2.out]; rfl, HE.out.trans hE1⟩
      · have hN : atErr M k f = 2 := by unfold atErr inMo; simp [h]; omega
        have hN2 : atOf M k f = false := by unfold atOf; simp [hN]
        have HN := Lib.hid hN
        have HN2 := Lib.hid hN2
        clear h hN hN2
        go_enter Tryd.func20, Tryd.ntmps20
        go_wp2_with (go_at_call 24; refine H.out.mono ?_; rintro e w1 ⟨rfl, hE1⟩; have q0 := hE1.cell m0; clear m0 m1 m2; rw [HR.out])
        go_ret2
        exact ⟨by rw [HN.out, HN2.out]; rfl, HE.out.trans hE1⟩
  · have hN : atErr M x f = reqErr M f := if_pos h
    have hN2 : atOf M x f = false := by unfold atOf; simp [hN, h]
    have HN := Lib.hid hN
    have HN2 := Lib.hid hN2
    have hq : (reqErr M f != 0) = true := by simp [h]
    clear hN hN2 h
    go_enter Tryd.func20, Tryd.ntmps20
    go_wp2_with (go_at_call 24; refine H.out.mono ?_; rintro e w1 ⟨rfl, hE1⟩)
    go_ret2
    exact ⟨by rw [HN.out, HN2.out]; rfl, HE.out.trans hE1⟩
def validOf (M : Mo) (f : List Nd) : Bool := reqErr M f == 0 && holdsOf M f == allW M.worlds.toNat
set_option maxRecDepth 20000 in
set_option maxHeartbeats 1000000 in
theorem valid_any (M : Mo) (va ra : Option Addr) (vc rc : Nat) (fa : Option Addr) (fc : Nat) (f : List Nd) (w : World) (hm : RM w va ra M) (hf : RN w fa f) :
    Calls Tryd.prog 22 #[.agg #[.int .i64 M.worlds, .slice va M.val.length vc, .slice ra M.rel.length rc], .slice fa f.length fc] w fun e w' => RetP (.bool (validOf M f)) (reqErr M f) e w w' := by
  have hE0 := (Ext.refl w).alloc (.cells #[.int .i64 M.worlds, .slice va M.val.length vc, .slice ra M.rel.length rc] 25)
  have H := Lib.hid (holds_any M va ra vc rc fa fc f _ (hm.ext hE0) (hf.ext hE0))
  obtain ⟨m0, m1, m2⟩ := MoBox.new w M.worlds M.val M.rel va vc ra rc 25
  have HE := Lib.hid hE0
  clear hE0 hm hf
  by_cases h : reqErr M f = 0
  · obtain ⟨N, ok⟩ := moCheck_ok (reqErr_ok h).1
    have hW := ok.worlds
    have hn1 := ok.one
    have hn64 := ok.most
    have hsh := div_max N hn1 hn64
    have hs64 := sub64 N hn1 hn64
    rw [hW] at m0
    have hN : validOf M f = (holdsOf M f == allW N) := by unfold validOf; rw [hW]; simp [h]
    have HN := Lib.hid hN
    have HR := Lib.hid h
    have HW := Lib.hid hW
    clear hN h ok hW
    rw [HW.out] at H HE m1 m2 ⊢
    go_enter Tryd.func22, Tryd.ntmps22
    go_wp2_with (go_at_call 24; refine H.out.mono ?_; rintro e w1 ⟨rfl, hE1⟩; have q0 := hE1.cell m0; clear m0 m1 m2; rw [HR.out])
    go_ret2
    exact ⟨by rw [HN.out, HR.out]; rfl, HE.out.trans hE1⟩
  · have hN : validOf M f = false := by unfold validOf; simp [h]
    have HN := Lib.hid hN
    have hq : (reqErr M f != 0) = true := by simp [h]
    have hq2 : (reqErr M f == 0) = false := by simp [h]
    clear hN h
    go_enter Tryd.func22, Tryd.ntmps22
    go_wp2_with (go_at_call 24; refine H.out.mono ?_; rintro e w1 ⟨rfl, hE1⟩)
    go_ret2
    exact ⟨by rw [HN.out]; rfl, HE.out.trans hE1⟩
end Wt
