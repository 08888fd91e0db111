/- The walk of the law's function set; the set of a formula lies in the model. -/
import Derived.Test.YtdnpgadkklgjeaaDoorLawC
import Derived.Test.YtdnpgadkklgjeaaDoorSet
namespace Wt
open Go Go.RowKit Go.Maps Go.Proofs Fm

def RetG (s : BitVec 64) (b : Bool) (e : Ending) (w w' : World) : Prop := e = .returned (.tuple #[.int .u64 (un s), .bool b]) ∧ Ext w w'
set_option maxRecDepth 20000 in
set_option maxHeartbeats 1000000 in
theorem set_any (M : Mo) (va ra : Option Addr) (vc rc : Nat) (fa : Option Addr) (fc : Nat) (f : List Nd) (w : World) (hm : RM w va ra M) (hf : RN w fa f) :
    Calls Tryd.prog 7 #[.agg #[.int .i64 M.worlds, .slice va M.val.length vc, .slice ra M.rel.length rc], .slice fa f.length fc] w fun e w' => RetG (holdsOf M f) (reqErr M f == 0) e w w' := by
  have hE0 := (Ext.refl w).alloc (.cells #[.int .i64 M.worlds, .slice va M.val.length vc, .slice ra M.rel.length rc] 25)
  have hbx := MoBox.new w M.worlds M.val M.rel va vc ra rc 25
  have HM := Lib.hid (hm.ext hE0)
  have HF := Lib.hid (hf.ext hE0)
  have HE := Lib.hid hE0
  obtain ⟨m0, m1, m2⟩ := hbx
  dsimp only at m0 m1 m2
  clear hm hf hE0
  go_enter Tryd.func7, Tryd.ntmps7
  go_wp2_with fail
  refine (holds_any M va ra vc rc fa fc f _ HM.out HF.out).mono ?_
  rintro _ w1 ⟨rfl, hX1⟩
  dsimp only
  go_wp2_with fail
  go_ret2
  exact ⟨rfl, HE.out.trans hX1⟩
/-- The set of a right formula that has one. -/
theorem setT {M : Mo} (hM : moCheck M = 0) {l : List Nd} {t : Fm} {s : BitVec 64} (h : IsF l t) (hs : semT M t = (s, true)) (va ra : Option Addr) (vc rc : Nat) (fa : Option Addr) (fc : Nat) (w : World) (hm : RM w va ra M) (hf : RN w fa l) :
    Calls Tryd.prog 7 #[.agg #[.int .i64 M.worlds, .slice va M.val.length vc, .slice ra M.rel.length rc], .slice fa l.length fc] w fun e w' => RetG s true e w w' := by
  obtain ⟨h1, h2⟩ := set_sem hM h
  have := set_any M va ra vc rc fa fc l w hm hf
  rw [h1, h2, hs] at this
  exact this
/-- What the law knows of a formula that has a set. -/
theorem set_ok {M : Mo} {f : List Nd} (h : (reqErr M f == 0) = true) : moCheck M = 0 ∧ IsF f (rt f) ∧ semT M (rt f) = (holdsOf M f, true) := by
  have h0 : reqErr M f = 0 := by simpa using h
  obtain ⟨h1, h2, _, _⟩ := reqErr_ok h0
  have hF := IsF.of h2
  obtain ⟨e1, e2⟩ := set_sem h1 hF
  exact ⟨h1, hF, by rw [Prod.ext_iff]; exact ⟨e2.symm, by rw [← e1]; exact h⟩⟩
end Wt
