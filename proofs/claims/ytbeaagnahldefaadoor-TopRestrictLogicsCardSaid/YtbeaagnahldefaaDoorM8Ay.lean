/- Walks of package action: alone, Value, has. -/
import Derived.Test.YtbeaagnahldefaaDoorM8Ax
import Derived.Test.YtbeaagnahldefaaDoorM8Av
import Derived.Test.YtbeaagnahldefaaDoorM8Ar
import Derived.Deep.RegionHeld3
import Derived.Test.YtbeaagnahldefaaDoorM8Am
import Derived.WalkMore
namespace Wt
open Go Go.RowKit Go.Maps Go.Proofs Fm

/-! What no error says. -/
theorem stErr_ok {f : List Nd} {a n : Nat} (h : stErr f a n = 0) : fCheck f = 0 ∧ fFrags f < 16 ∧ fFits f a n = true := by
  unfold stErr at h
  split at h
  · next c => exact absurd h c
  · next c =>
    split at h
    · cases h
    · split at h
      · cases h
      · next c3 => exact ⟨Decidable.not_not.1 c, by omega, by simpa using c3⟩
theorem chErr_ok {a n : Nat} : ∀ {l : List Asn} {last : Int}, chErr a n l last = 0 → ∀ k, k < l.length → 0 ≤ (nth l k).fact ∧ (nth l k).fact < (n : Int) ∧ stErr (nth l k).tf a n = 0
  | [], _, _, k, hk => absurd hk (Nat.not_lt_zero _)
  | x :: l, last, h, k, hk => by
    rw [chErr_cons] at h
    split at h
    · cases h
    · next c1 =>
      split at h
      · cases h
      · split at h
        · next c3 => exact absurd h c3
        · next c3 =>
          cases k with
          | zero => exact ⟨by show 0 ≤ x.fact; omega, by show x.fact < (n : Int); omega, Decidable.not_not.1 c3⟩
          | succ k => exact chErr_ok h k (by simpa using hk)
theorem evErr_ok {a n : Nat} : ∀ {l : List (List Nd)} {m : List (List Asn)}, evErr a n l m = 0 → l.length = m.length → ∀ k, k < l.length → stErr (nth l k) a n = 0 ∧ chErr a n (nth m k) (-1) = 0
  | [], _, _, _, k, hk => absurd hk (Nat.not_lt_zero _)
  | f :: l, [], _, hl, k, hk => by simp at hl
  | f :: l, x :: m, h, hl, k, hk => by
    change (if stErr f a n ≠ 0 then stErr f a n else if chErr a n x (-1) ≠ 0 then chErr a n x (-1) else evErr a n l m) = 0 at h
    split at h
    · next c => exact absurd h c
    · next c =>
      split at h
      · next c2 => exact absurd h c2
      · next c2 =>
        cases k with
        | zero => exact ⟨Decidable.not_not.1 c, Decidable.not_not.1 c2⟩
        | succ k => exact evErr_ok h (by simpa using hl) k (by simpa using hk)
/-- An action model that has no error. -/
structure AcOk (A : Acn) (a n : Nat) : Prop where
  a4 : a ≤ 4
  n8 : n ≤ 8
  p1 : 1 ≤ A.pre.length
  p8 : A.pre.length ≤ 8
  ql : A.post.length = A.pre.length
  rl : A.rel.length = a
  rr : ∀ r ∈ A.rel, r.length = A.pre.length ∧ outL A.pre.length r = false
  pre : ∀ k, k < A.pre.length → stErr (nth A.pre k) a n = 0
  post : ∀ k, k < A.pre.length → chErr a n (nth A.post k) (-1) = 0
theorem acErr_ok {A : Acn} {a n : Nat} (h : acErr A a n = 0) : AcOk A a n := by
  unfold acErr at h
  split at h
  · cases h
  · next c =>
    split at h
    · next c2 => exact absurd h c2
    · next c2 =>
      obtain ⟨h1, h2, h3, h4, h5⟩ := shErr_ok (Decidable.not_not.1 c2)
      have h6 := evErr_ok h h3.symm
      exact ⟨by omega, by omega, h1, h2, h3, h4, h5, fun k hk => (h6 k hk).1, fun k hk => (h6 k hk).2⟩
set_option maxHeartbeats 1000000 in
theorem alone_any (A : Acn) (pa qa ra : Option Addr) (pc qc rc : Nat) (w : World) (ha : RAc w pa qa ra A) :
    Calls Tryd.prog 58 #[.agg #[.slice pa A.pre.length pc, .slice qa A.post.length qc, .slice ra A.rel.length rc]] w fun e w' => e = .returned (.int .i64 (acErr A A.rel.length 8)) ∧ Ext w w' := by
  have hE0 : Ext w (w.alloc (.cells #[.slice pa A.pre.length pc, .slice qa A.post.length qc, .slice ra A.rel.length rc] 45)) := (Ext.refl w).alloc _
  obtain ⟨o0, o1, o2, -⟩ := OutAt.new w (.slice pa A.pre.length pc) (.slice qa A.post.length qc) (.slice ra A.rel.length rc) 45
  have ol := World.block_lt_of_cell? _ _ o0
  dsimp only at ol
  have HE := Lib.hid hE0
  have HC := Lib.hid (acheck_any A pa qa ra pc qc rc A.rel.length 8 _ (ha.ext hE0))
  have hrl := ha.rel.len
  clear ha hE0
  go_enter Tryd.func58, Tryd.ntmps58
  go_wp2_with fail
  refine HC.out.mono ?_
  rintro _ w1 ⟨rfl, hE1⟩
  dsimp only
  go_wp2_with fail
  go_ret
  exact ⟨rfl, HE.out.trans hE1⟩
theorem ahas_any (s : BitVec 64) (k : Nat) (w : World) :
    Calls Tryd.prog 96 #[.int .u64 (un s), .int .i64 (k : Int)] w fun e w' => e = .returned (.bool (bt s k)) ∧ w = w' := by
  have hu := bit_un s k
  cases hb : bt s k
  all_goals
    rw [hb] at hu
    simp only [b01I, if_true, if_false, Bool.false_eq_true] at hu
    go_enter Tryd.func96, Tryd.ntmps96
    go_wp2_with fail
    go_ret
    exact ⟨rfl, rfl⟩
/-- The formula that a fact gets by a list of assignments. -/
def vaL : List Asn → Nat → List Nd
  | [], k => fB ⟨3, (k : Int), 0, 0, 0, 0⟩ []
  | x :: l, k => if x.fact = (k : Int) then fCompact x.tf else vaL l k
def RetNz (l : List Nd) (e : Ending) (w w' : World) : Prop := ∃ a c, e = .returned (.tuple #[.slice a l.length c, .int .i64 0]) ∧ RN w' a l ∧ Ext w w'
set_option maxRecDepth 20000 in
set_option maxHeartbeats 4000000 in
theorem avalue_any (A : Acn) (pa qa ra : Option Addr) (pc qc rc i k : Nat) (w : World) (ha : RAc w pa qa ra A) (hok : acErr A A.rel.length 8 = 0) (hi : i < A.pre.length) (hk : k < 8) :
    Calls Tryd.prog 64 #[.agg #[.slice pa A.pre.length pc, .slice qa A.post.length qc, .slice ra A.rel.length rc], .int .i64 (i : Int), .int .i64 (k : Int)] w fun e w' => RetNz (vaL (nth A.post i) k) e w w' := by
  have hE0 : Ext w (w.alloc (.cells #[.slice pa A.pre.length pc, .slice qa A.post.length qc, .slice ra A.rel.length rc] 45)) := (Ext.refl w).alloc _
  have HO := Lib.hid (OutAt.new w (.slice pa A.pre.length pc) (.slice qa A.post.length qc) (.slice ra A.rel.length rc) 45)
  have HE := Lib.hid hE0
  have HA := Lib.hid (ha.ext hE0)
  have hC := alone_any A pa qa ra pc qc rc _ (ha.ext hE0)
  rw [hok] at hC
  have HC := Lib.hid hC
  obtain ⟨-, -, -, hp8, hql, -, -, -, hpo⟩ := acErr_ok hok
  obtain ⟨m, hm⟩ : ∃ m, nth A.post i = m := ⟨_, rfl⟩
  have hpi := hpo i hi
  rw [hm] at hpi ⊢
  have HPO := Lib.hid (chErr_ok hpi)
  have HM := Lib.hid hm
  clear ha hE0 hok hC hpo hpi hm
  obtain ⟨o0, o1, o2, -⟩ := HO.out
  have ol := World.block_lt_of_cell? _ _ o0
  dsimp only at ol
  have d1 : decide ((i : Int) < 0) = false := decide_eq_false (by omega)
  have d2 : decide ((A.pre.length : Int) ≤ (i : Int)) = false := decide_eq_false (by omega)
  have d3 : decide ((k : Int) < 0) = false := decide_eq_false (by omega)
  have d4 : decide ((8 : Int) ≤ (k : Int)) = false := decide_eq_false (by omega)
  have hiq : i < A.post.length := by omega
  have HQL := Lib.hid hql
  clear hql
  go_enter Tryd.func64, Tryd.ntmps64
  go_wp2_with fail
  generalize w.alloc (.cells #[.slice pa A.pre.length pc, .slice qa A.post.length qc, .slice ra A.rel.length rc] 45) = w0 at *
  refine HC.out.mono ?_
  rintro _ w1 ⟨rfl, hE1⟩
  have HE1 := Lib.hid hE1
  clear o0 o1 o2 ol HC hE1
  obtain ⟨o0, o1, o2, -⟩ := HO.out.ext HE1.out
  have ol := World.block_lt_of_cell? _ _ o0
  obtain ⟨b2, f2, a2, c2, h2, hb2, hc2, hs2⟩ := (HA.out.post.ext HE1.out).get i hiq
  subst h2
  rw [HM.out] at hc2 hs2
  have HS := Lib.hid hs2
  have hml := hs2.len
  clear hs2
  dsimp only at ol ⊢
  go_wp2_with fail
  clear o0 o1 o2 ol d1 d2 d3 d4 hc2 hb2
  go_loopw [37] (fun j wr => ∃ q : Nat, q ≤ m.length ∧ j = .int .i64 (q : Int) ∧ Hid (Ext w1 wr) ∧ Hid (vaL (m.drop q) k = vaL m k)) (fun j _ => m.length - (RowKit.intOf j).toNat)
  case atStart => exact ⟨0, Nat.zero_le _, rfl, Lib.hid (Ext.refl _), Lib.hid rfl⟩
  case round =>
    obtain ⟨q, hq, rfl, HX, HV⟩ := hrel
    by_cases hqm : q < m.length
    · obtain ⟨b3, f3, a3, c3, rfl, hb3, h0, h1, hn3⟩ := (HS.out.ext HX.out).get q hqm
      have HVV := HV.out
      rw [drop_cons hqm] at HVV
      change (if (nth m q).fact = (k : Int) then fCompact (nth m q).tf else vaL (m.drop (q + 1)) k) = _ at HVV
      have hck := (stErr_ok (HPO.out q hqm).2.2).1
      have HN := Lib.hid hn3
      clear hn3
      generalize nth m q = x at *
      obtain ⟨fx, fo⟩ := x
      dsimp only at h0 h1 HVV HN hck
      by_cases c1 : fx = (k : Int)
      · rw [if_pos c1] at HVV
        have HQ := Lib.hid HVV
        have HCK := Lib.hid hck
        clear HVV hck
        subst c1
        have HCM : Hid (∀ W, Ext wr W → Calls Tryd.prog 36 #[.slice a3 fo.length c3] W fun e w' => RetN (fCompact fo) e W w') := Lib.hid fun W e => (compactF_fresh a3 c3 fo W (HN.out.ext e) HCK.out).mono fun _ _ h => h.n
        go_wp2_with fail
        refine (HCM.out _ ((Ext.refl _).alloc _)).mono ?_
        rintro _ w4 ⟨a4, c4, rfl, hn4, hE4⟩
        dsimp only
        go_wp2_with fail
        go_ret2
        refine ⟨a4, c4, ?_, by rw [← HQ.out]; exact hn4, HE.out.trans (HE1.out.trans (HX.out.trans (((Ext.refl _).alloc _).trans hE4)))⟩
        rw [← HQ.out]; rfl
      · rw [if_neg c1] at HVV
        have HQ := Lib.hid HVV
        have q1 : (fx == (k : Int)) = false := by simpa using c1
        clear HVV c1 hck
        go_wp2_with fail
        go_roundw
        case rel => exact ⟨q + 1, hqm, by go_num, Lib.hid (HX.out.alloc _), HQ⟩
        case measure => simp [RowKit.intOf]; omega
    · have HQ : Hid (vaL m k = fB ⟨3, (k : Int), 0, 0, 0, 0⟩ []) := Lib.hid (by rw [← HV.out, List.drop_eq_nil_of_le (by omega)]; rfl)
      have HFC := Lib.hid (cFact_any (k : Int) wr)
      go_wp2_with fail
      refine HFC.out.mono ?_
      rintro _ w4 ⟨a4, c4, rfl, hn4, hE4⟩
      dsimp only
      go_wp2_with fail
      go_ret2
      refine ⟨a4, c4, ?_, by rw [HQ.out]; exact hn4, HE.out.trans (HE1.out.trans (HX.out.trans hE4))⟩
      rw [HQ.out]; rfl
end Wt

/- Walks of package action: of. -/
namespace Wt
open Go Go.RowKit Go.Maps Go.Proofs Fm

/-- Four Booleans in a block of their own. -/
structure Bx4 (W : World) (b : Nat) (p q s t : Bool) : Prop where
  c0 : W.cell? ⟨b, 0, none⟩ = some (.bool p)
  c1 : W.cell? ⟨b, 1, none⟩ = some (.bool q)
  c2 : W.cell? ⟨b, 2, none⟩ = some (.bool s)
  c3 : W.cell? ⟨b, 3, none⟩ = some (.bool t)
  fz : ∀ o, W.frozen? ⟨b, o, none⟩ = false
section
variable {W W' : World} {b : Nat} {p q s t : Bool}
theorem Bx4.lt (h : Bx4 W b p q s t) : b < W.heap.size := World.block_lt_of_cell? _ _ h.c0
theorem Bx4.new (W : World) (p q s t : Bool) (T : TypeId) : Bx4 (W.alloc (.cells #[.bool p, .bool q, .bool s, .bool t] T)) W.heap.size p q s t := by
  have h := World.alloc_heap_new W (.cells #[.bool p, .bool q, .bool s, .bool t] T)
  exact ⟨by unfold World.cell?; rw [h]; rfl, by unfold World.cell?; rw [h]; rfl, by unfold World.cell?; rw [h]; rfl, by unfold World.cell?; rw [h]; rfl, fun o => by unfold World.frozen?; rw [h]; rfl⟩
theorem Bx4.ext (h : Bx4 W b p q s t) (e : Ext W W') : Bx4 W' b p q s t :=
  ⟨e.cell h.c0, e.cell h.c1, e.cell h.c2, e.cell h.c3, fun o => (World.frozen?_of_block (e.block _ h.lt)).trans (h.fz o)⟩
theorem Bx4.at {b' : Nat} (h : Bx4 W b p q s t) (e : b = b') : Bx4 W b' p q s t := e ▸ h
theorem Bx4.set0 (h : Bx4 W b p q s t) (x : Bool) : Bx4 (W.setCell ⟨b, 0, none⟩ (.bool x)) b x q s t :=
  ⟨World.cell?_setCell_same _ _ _ h.c0, (World.cell?_setCell_other _ _ _ _ (by simp)).trans h.c1, (World.cell?_setCell_other _ _ _ _ (by simp)).trans h.c2, (World.cell?_setCell_other _ _ _ _ (by simp)).trans h.c3, fun o => by rw [World.frozen?_setCell]; exact h.fz o⟩
theorem Bx4.set1 (h : Bx4 W b p q s t) (x : Bool) : Bx4 (W.setCell ⟨b, 1, none⟩ (.bool x)) b p x s t :=
  ⟨(World.cell?_setCell_other _ _ _ _ (by simp)).trans h.c0, World.cell?_setCell_same _ _ _ h.c1, (World.cell?_setCell_other _ _ _ _ (by simp)).trans h.c2, (World.cell?_setCell_other _ _ _ _ (by simp)).trans h.c3, fun o => by rw [World.frozen?_setCell]; exact h.fz o⟩
theorem Bx4.set2 (h : Bx4 W b p q s t) (x : Bool) : Bx4 (W.setCell ⟨b, 2, none⟩ (.bool x)) b p q x t :=
  ⟨(World.cell?_setCell_other _ _ _ _ (by simp)).trans h.c0, (World.cell?_setCell_other _ _ _ _ (by simp)).trans h.c1, World.cell?_setCell_same _ _ _ h.c2, (World.cell?_setCell_other _ _ _ _ (by simp)).trans h.c3, fun o => by rw [World.frozen?_setCell]; exact h.fz o⟩
theorem Bx4.set3 (h : Bx4 W b p q s t) (x : Bool) : Bx4 (W.setCell ⟨b, 3, none⟩ (.bool x)) b p q s x :=
  ⟨(World.cell?_setCell_other _ _ _ _ (by simp)).trans h.c0, (World.cell?_setCell_other _ _ _ _ (by simp)).trans h.c1, (World.cell?_setCell_other _ _ _ _ (by simp)).trans h.c2, World.cell?_setCell_same _ _ _ h.c3, fun o => by rw [World.frozen?_setCell]; exact h.fz o⟩
end
/-! The properties, row by row. -/
def ofA (r : List (BitVec 64)) (k : Nat) : Bool := (List.range k).all fun w => nth r w != 0#64
def ofB (r : List (BitVec 64)) (k : Nat) : Bool := (List.range k).all fun w => bt (nth r w) w
def ofC1 (r : List (BitVec 64)) (w j : Nat) : Bool := (List.range j).all fun u => !bt (nth r w) u || nth r u &&& ~~~ nth r w == 0#64
def ofC (r : List (BitVec 64)) (k : Nat) : Bool := (List.range k).all fun w => ofC1 r w r.length
def ofD1 (r : List (BitVec 64)) (w j : Nat) : Bool := (List.range j).all fun u => !bt (nth r w) u || nth r w &&& ~~~ nth r u == 0#64
def ofD (r : List (BitVec 64)) (k : Nat) : Bool := (List.range k).all fun w => ofD1 r w r.length
theorem all_snoc (p : Nat → Bool) (k : Nat) : (List.range (k + 1)).all p = ((List.range k).all p && p k) := by
  rw [List.range_succ, List.all_append]; simp
theorem ofA_end (r : List (BitVec 64)) : ofA r r.length = serB r := by
  unfold ofA serB
  rw [Bool.eq_iff_iff, List.all_eq_true, List.all_eq_true]
  constructor
  · intro h x hx
    obtain ⟨k, hk, rfl⟩ := List.getElem_of_mem hx
    have := h k (List.mem_range.2 hk)
    rwa [nth_eq _ _ hk] at this
  · intro h k hk
    rw [List.mem_range] at hk
    exact h _ (nth_mem hk)
theorem un_ne0 (X : BitVec 64) : (un X != 0) = (X != 0#64) := by
  rw [← un_zero]
  by_cases h : X = 0#64
  · rw [h]; simp
  · rw [bne_iff_ne.2 h, bne_iff_ne.2 (fun e => h (un_inj.1 e))]
theorem un_eq0 (X : BitVec 64) : (un X == 0) = (X == 0#64) := by
  have h := un_ne0 X
  simp only [bne] at h
  exact Bool.not_inj h
def RetC (p q s t : Bool) (e : Ending) (w w' : World) : Prop := e = .returned (.agg #[.bool p, .bool q, .bool s, .bool t]) ∧ Ext w w'
/-- Between two rounds. -/
structure OfS (w : World) (p q s t : Bool) (W : World) : Prop where
  e : Ext w W
  rc : Bx4 W w.heap.size false false false false
  cc : Bx4 W (w.heap.size + 1) p q s t
section
variable {w W : World} {p q s t : Bool}
theorem Bx4.other {b : Nat} (h : Bx4 W b p q s t) (o : Nat) (x : Value) {b' : Nat} (hb : b ≠ b') : Bx4 (W.setCell ⟨b', o, none⟩ x) b p q s t :=
  ⟨(World.cell?_setCell_other _ _ _ _ (by simp)).trans h.c0, (World.cell?_setCell_other _ _ _ _ (by simp)).trans h.c1, (World.cell?_setCell_other _ _ _ _ (by simp)).trans h.c2, (World.cell?_setCell_other _ _ _ _ (by simp)).trans h.c3, fun o => by rw [World.frozen?_setCell]; exact h.fz o⟩
theorem OfS.set0 (h : OfS w p q s t W) (x : Bool) : OfS w x q s t (W.setCell ⟨w.heap.size + 1, 0, none⟩ (.bool x)) := ⟨h.e.setCell (by simp) _, h.rc.other _ _ (by omega), h.cc.set0 x⟩
theorem OfS.set1 (h : OfS w p q s t W) (x : Bool) : OfS w p x s t (W.setCell ⟨w.heap.size + 1, 1, none⟩ (.bool x)) := ⟨h.e.setCell (by simp) _, h.rc.other _ _ (by omega), h.cc.set1 x⟩
theorem OfS.set2 (h : OfS w p q s t W) (x : Bool) : OfS w p q x t (W.setCell ⟨w.heap.size + 1, 2, none⟩ (.bool x)) := ⟨h.e.setCell (by simp) _, h.rc.other _ _ (by omega), h.cc.set2 x⟩
theorem OfS.set3 (h : OfS w p q s t W) (x : Bool) : OfS w p q s x (W.setCell ⟨w.heap.size + 1, 3, none⟩ (.bool x)) := ⟨h.e.setCell (by simp) _, h.rc.other _ _ (by omega), h.cc.set3 x⟩
end
set_option maxRecDepth 20000 in
set_option maxHeartbeats 8000000 in
theorem of_any (r : List (BitVec 64)) (a : Option Addr) (c : Nat) (w : World) (hr : RU w a r) :
    Calls Tryd.prog 61 #[.slice a r.length c] w fun e w' => RetC (serB r) (refB r) (traB r) (eucB r) e w w' := by
  have hE1 : Ext w (w.alloc (.cells #[.bool false, .bool false, .bool false, .bool false] 92)) := (Ext.refl w).alloc _
  have hE0 : Ext w ((w.alloc (.cells #[.bool false, .bool false, .bool false, .bool false] 92)).alloc (.cells #[.bool true, .bool true, .bool true, .bool true] 92)) := hE1.alloc _
  have HC := Lib.hid ((Bx4.new w false false false false 92).ext ((Ext.refl _).alloc (.cells #[.bool true, .bool true, .bool true, .bool true] 92)))
  have HB := Lib.hid ((Bx4.new (w.alloc (.cells #[.bool false, .bool false, .bool false, .bool false] 92)) true true true true 92).at (b' := w.heap.size + 1) (by simp))
  have HE := Lib.hid hE0
  have HR := Lib.hid hr
  have hln := hr.len
  clear hr hE1 hE0
  go_enter Tryd.func61, Tryd.ntmps61
  go_wp2_with fail
  have HO0 : Hid (OfS w true true true true ((w.alloc (.cells #[.bool false, .bool false, .bool false, .bool false] 92)).alloc (.cells #[.bool true, .bool true, .bool true, .bool true] 92))) := Lib.hid ⟨HE.out, HC.out, HB.out⟩
  clear HE HC HB
  generalize (w.alloc (.cells #[.bool false, .bool false, .bool false, .bool false] 92)).alloc (.cells #[.bool true, .bool true, .bool true, .bool true] 92) = w2 at *
  go_loopw [11] (fun i wr => ∃ k : Nat, k ≤ r.length ∧ i = .int .i64 (k : Int) ∧ Hid (OfS w (ofA r k) (ofB r k) (ofC r k) (ofD r k) wr)) (fun i _ => r.length - (RowKit.intOf i).toNat)
  case atStart => exact ⟨0, Nat.zero_le _, rfl, HO0⟩
  case round =>
    obtain ⟨k, hk, rfl, HS⟩ := hrel
    by_cases hkl : k < r.length
    · obtain ⟨b1, f1, rfl, hb1, hc1⟩ := (HR.out.ext HS.out.e).get hkl
      have HA : Hid (ofA r (k + 1) = (ofA r k && (nth r k != 0#64))) := Lib.hid (all_snoc _ _)
      have HBq : Hid (ofB r (k + 1) = (ofB r k && bt (nth r k) k)) := Lib.hid (all_snoc _ _)
      have HCk : Hid (ofC r (k + 1) = (ofC r k && ofC1 r k r.length)) := Lib.hid (all_snoc _ _)
      have HDk : Hid (ofD r (k + 1) = (ofD r k && ofD1 r k r.length)) := Lib.hid (all_snoc _ _)
      have HC1 : Hid (∀ j, ofC1 r k (j + 1) = (ofC1 r k j && (!bt (nth r k) j || nth r j &&& ~~~ nth r k == 0#64))) := Lib.hid fun j => all_snoc _ _
      have HD1 : Hid (∀ j, ofD1 r k (j + 1) = (ofD1 r k j && (!bt (nth r k) j || nth r k &&& ~~~ nth r j == 0#64))) := Lib.hid fun j => all_snoc _ _
      obtain ⟨S, hS⟩ : ∃ S, nth r k = S := ⟨_, rfl⟩
      rw [hS] at HA HBq HC1 HD1 hc1
      have HNS := Lib.hid hS
      clear hS
      go_upto_region 5 with fail
      go_cut [] from 16 to 22 (fun wc => Hid (OfS w (ofA r (k + 1)) (ofB r k) (ofC r k) (ofD r k) wc))
      case first =>
        have hz := un_ne0 S
        generalize (S != 0#64) = z at *
        generalize ofA r k = p at *
        obtain ⟨⟨g0, g1, g2, g3, gz⟩, gl⟩ := (⟨HS.out.cc, HS.out.cc.lt⟩ : Bx4 wr (w.heap.size + 1) p (ofB r k) (ofC r k) (ofD r k) ∧ _)
        have z0 := gz 0
        clear gz
        cases p <;> cases z
        all_goals
          go_wp2_with fail
          go_meet
          case rel => exact Lib.hid (by rw [HA.out]; exact HS.out.set0 _)
      case rest =>
       rename World => w7
       have HS7 := hcut
       clear hcut
       go_upto_region 6 with fail
       go_cut [] from 23 to 30 (fun wc => Hid (OfS w (ofA r (k + 1)) (ofB r (k + 1)) (ofC r k) (ofD r k) wc))
       case first =>
        have HH := Lib.hid (ahas_any S k)
        generalize bt S k = y at *
        generalize ofB r k = q at *
        obtain ⟨⟨g0, g1, g2, g3, gz⟩, gl⟩ := (⟨HS7.out.cc, HS7.out.cc.lt⟩ : Bx4 w7 (w.heap.size + 1) (ofA r (k + 1)) q (ofC r k) (ofD r k) ∧ _)
        have z1 := gz 1
        clear gz
        cases q
        all_goals
          go_wp2_with (go_at_call 96; refine (HH.out _).mono ?_; rintro _ _ ⟨rfl, rfl⟩)
          go_meet
          case rel => exact Lib.hid (by rw [HBq.out]; exact HS7.out.set1 _)
       case rest =>
        rename World => w8
        have HS8 := hcut
        clear hcut
        go_wp2_with fail
        go_loopw [33] (fun i wz => ∃ j : Nat, j ≤ r.length ∧ i = .int .i64 (j : Int) ∧ Hid (OfS w (ofA r (k + 1)) (ofB r (k + 1)) (ofC r k && ofC1 r k j) (ofD r k && ofD1 r k j) wz)) (fun i _ => r.length - (RowKit.intOf i).toNat)
        case atStart => exact ⟨0, Nat.zero_le _, rfl, Lib.hid (by
          have h := HS8.out
          show OfS w _ _ (ofC r k && true) (ofD r k && true) w8
          rw [Bool.and_true, Bool.and_true]
          exact h)⟩
        case round =>
          rename World => wz
          obtain ⟨j, hj, rfl, HZ⟩ := hrel
          by_cases hjl : j < r.length
          · obtain ⟨b2, f2, e2, hb2, hc2⟩ := (HR.out.ext HZ.out.e).get hjl
            simp only [Option.some.injEq, Addr.mk.injEq] at e2
            obtain ⟨rfl, rfl, -⟩ := e2
            have HC1j := Lib.hid (HC1.out j)
            have HD1j := Lib.hid (HD1.out j)
            have HH := Lib.hid (ahas_any S j)
            have hz1 := un_eq0 (nth r j &&& ~~~ S)
            have hz2 := un_eq0 (S &&& ~~~ nth r j)
            generalize bt S j = y at *
            cases y
            · have HN1 : Hid (ofC1 r k (j + 1) = ofC1 r k j) := Lib.hid (by rw [HC1j.out]; simp)
              have HN2 : Hid (ofD1 r k (j + 1) = ofD1 r k j) := Lib.hid (by rw [HD1j.out]; simp)
              clear hz1 hz2
              go_wp2_with (go_at_call 96; refine (HH.out _).mono ?_; rintro _ _ ⟨rfl, rfl⟩)
              go_roundw
              case rel => exact ⟨j + 1, hjl, by go_num, Lib.hid (by rw [HN1.out, HN2.out]; exact HZ.out)⟩
              case measure => simp [RowKit.intOf]; omega
            · have HN1 : Hid (ofC1 r k (j + 1) = (ofC1 r k j && (nth r j &&& ~~~ S == 0#64))) := Lib.hid (by rw [HC1j.out]; simp)
              have HN2 : Hid (ofD1 r k (j + 1) = (ofD1 r k j && (S &&& ~~~ nth r j == 0#64))) := Lib.hid (by rw [HD1j.out]; simp)
              have HZ2 : Hid (∀ x y, (ofC r k && ofC1 r k j) = x → (ofD r k && ofD1 r k j) = y → OfS w (ofA r (k + 1)) (ofB r (k + 1)) x y wz) := Lib.hid fun x y h1 h2 => by rw [← h1, ← h2]; exact HZ.out
              have HW : Hid (∀ x y z1 z2, (ofC r k && ofC1 r k j) = x → (ofD r k && ofD1 r k j) = y → (nth r j &&& ~~~ S == 0#64) = z1 → (S &&& ~~~ nth r j == 0#64) = z2 → (ofC r k && ofC1 r k (j + 1)) = (x && z1) ∧ (ofD r k && ofD1 r k (j + 1)) = (y && z2)) := Lib.hid fun x y z1 z2 h1 h2 h3 h4 => by
                rw [HN1.out, HN2.out, ← h1, ← h2, ← h3, ← h4, Bool.and_assoc, Bool.and_assoc]
                exact ⟨rfl, rfl⟩
              obtain ⟨x, hx⟩ : ∃ x, (ofC r k && ofC1 r k j) = x := ⟨_, rfl⟩
              obtain ⟨y, hy⟩ : ∃ y, (ofD r k && ofD1 r k j) = y := ⟨_, rfl⟩
              obtain ⟨z1, h1⟩ : ∃ z1, (nth r j &&& ~~~ S == 0#64) = z1 := ⟨_, rfl⟩
              obtain ⟨z2, h2⟩ : ∃ z2, (S &&& ~~~ nth r j == 0#64) = z2 := ⟨_, rfl⟩
              have HXY := Lib.hid (HW.out x y z1 z2 hx hy h1 h2)
              have HS9 := Lib.hid (HZ2.out x y hx hy)
              rw [h1] at hz1
              rw [h2] at hz2
              clear hx hy h1 h2 HW HZ2 HZ
              obtain ⟨⟨g0, g1, g2, g3, gz⟩, gl⟩ := (⟨HS9.out.cc, HS9.out.cc.lt⟩ : Bx4 wz (w.heap.size + 1) (ofA r (k + 1)) (ofB r (k + 1)) x y ∧ _)
              have y2 := gz 2
              have y3 := gz 3
              clear gz
              cases x <;> cases y <;> cases z1 <;> cases z2
              all_goals
                go_wp2_with (go_at_call 96; refine (HH.out _).mono ?_; rintro _ _ ⟨rfl, rfl⟩)
                go_roundw
                case rel => exact ⟨j + 1, hjl, by go_num, Lib.hid (by rw [HXY.out.1, HXY.out.2]; exact (HS9.out.set2 _).set3 _)⟩
                case measure => simp [RowKit.intOf]; omega
          · obtain rfl : j = r.length := by omega
            go_wp2_with fail
            go_roundw
            case rel => exact ⟨k + 1, hkl, by go_num, Lib.hid (by rw [HCk.out, HDk.out]; exact HZ.out)⟩
            case measure => simp [RowKit.intOf]; omega
    · obtain rfl : k = r.length := by omega
      have HQ1 := Lib.hid (ofA_end r)
      obtain ⟨⟨g0, g1, g2, g3, gz⟩, gl⟩ := (⟨HS.out.cc, HS.out.cc.lt⟩ : Bx4 wr (w.heap.size + 1) (ofA r r.length) (ofB r r.length) (ofC r r.length) (ofD r r.length) ∧ _)
      obtain ⟨⟨r0, r1, r2, r3, rz⟩, rl⟩ := (⟨HS.out.rc, HS.out.rc.lt⟩ : Bx4 wr w.heap.size false false false false ∧ _)
      have x0 := rz 0
      have x1 := rz 1
      have x2 := rz 2
      have x3 := rz 3
      clear rz gz
      have HB5 := Lib.hid ((((HS.out.rc.set0 (ofA r r.length)).set1 (ofB r r.length)).set2 (ofC r r.length)).set3 (ofD r r.length))
      have HE5 : Hid (Ext w ((((wr.setCell ⟨w.heap.size, 0, none⟩ (.bool (ofA r r.length))).setCell ⟨w.heap.size, 1, none⟩ (.bool (ofB r r.length))).setCell ⟨w.heap.size, 2, none⟩ (.bool (ofC r r.length))).setCell ⟨w.heap.size, 3, none⟩ (.bool (ofD r r.length)))) := Lib.hid ((((HS.out.e.setCell (by simp) _).setCell (by simp) _).setCell (by simp) _).setCell (by simp) _)
      go_wp2_with fail
      obtain ⟨d0, d1, d2, d3, -⟩ := HB5.out
      refine bodyPost_ret (v := .agg #[.bool (ofA r r.length), .bool (ofB r r.length), .bool (ofC r r.length), .bool (ofD r r.length)]) ?_ rfl ?_
      · rw [results_cell_one rfl]
        go_simp
      · exact ⟨by rw [HQ1.out]; rfl, HE5.out⟩
end Wt

/- Walks of package action: In. -/
namespace Wt
open Go Go.RowKit Go.Maps Go.Proofs Fm

/-- Whether the conditions of a logic are met. -/
def meetsB (g : Int) (p q s t : Bool) : Bool := if g = 0 then true else if g = 1 then p else if g = 2 then q else if g = 3 then s else if g = 4 then q && s else if g = 5 then p && s && t else if g = 6 then q && s && t else false
set_option maxRecDepth 20000 in
set_option maxHeartbeats 8000000 in
theorem ain1_any (g : Int) (b : Nat) (p q s t : Bool) (w : World) (hc : w.cell? ⟨b, 0, none⟩ = some (.int .i64 g)) :
    Calls Tryd.prog 59 #[.agg #[.bool p, .bool q, .bool s, .bool t], .pointer (some ⟨b, 0, none⟩)] w fun e w' => e = .returned (.bool (meetsB g p q s t)) ∧ Ext w w' := by
  have hb := World.block_lt_of_cell? _ _ hc
  dsimp only at hb
  by_cases h0 : g = 0
  · subst h0
    go_enter Tryd.func59, Tryd.ntmps59
    go_wp2_with fail
    go_ret
    exact ⟨rfl, (Ext.refl _).alloc _⟩
  by_cases h1 : g = 1
  · subst h1
    cases p
    all_goals
      go_enter Tryd.func59, Tryd.ntmps59
      go_wp2_with fail
      go_ret
      exact ⟨rfl, (Ext.refl _).alloc _⟩
  by_cases h2 : g = 2
  · subst h2
    cases q
    all_goals
      go_enter Tryd.func59, Tryd.ntmps59
      go_wp2_with fail
      go_ret
      exact ⟨rfl, (Ext.refl _).alloc _⟩
  by_cases h3 : g = 3
  · subst h3
    cases s
    all_goals
      go_enter Tryd.func59, Tryd.ntmps59
      go_wp2_with fail
      go_ret
      exact ⟨rfl, (Ext.refl _).alloc _⟩
  by_cases h4 : g = 4
  · subst h4
    cases q <;> cases s
    all_goals
      go_enter Tryd.func59, Tryd.ntmps59
      go_wp2_with fail
      go_ret
      exact ⟨rfl, (Ext.refl _).alloc _⟩
  by_cases h5 : g = 5
  · subst h5
    cases p <;> cases s <;> cases t
    all_goals
      go_enter Tryd.func59, Tryd.ntmps59
      go_wp2_with fail
      go_ret
      exact ⟨rfl, (Ext.refl _).alloc _⟩
  by_cases h6 : g = 6
  · subst h6
    cases q <;> cases s <;> cases t
    all_goals
      go_enter Tryd.func59, Tryd.ntmps59
      go_wp2_with fail
      go_ret
      exact ⟨rfl, (Ext.refl _).alloc _⟩
  have hn : meetsB g p q s t = false := by simp [meetsB, h0, h1, h2, h3, h4, h5, h6]
  rw [hn]
  have q0 : (g == 0) = false := by simpa using h0
  have q1 : (g == 1) = false := by simpa using h1
  have q2 : (g == 2) = false := by simpa using h2
  have q3 : (g == 3) = false := by simpa using h3
  have q4 : (g == 4) = false := by simpa using h4
  have q5 : (g == 5) = false := by simpa using h5
  have q6 : (g == 6) = false := by simpa using h6
  clear h0 h1 h2 h3 h4 h5 h6 hn
  go_enter Tryd.func59, Tryd.ntmps59
  go_wp2_with fail
  go_ret
  exact ⟨rfl, (Ext.refl _).alloc _⟩
theorem cf_ain2 (args : Array Value) (W : World) : (callFunc 60 args).run Tryd.prog W = .ok (.enter 60 args) W := by
  exact enters_of Tryd.func60 (by kernel_rfl) rfl args W
/-- Whether a relation meets the conditions of a logic. -/
def rowIn (g : Int) (r : List (BitVec 64)) : Bool := meetsB g (serB r) (refB r) (traB r) (eucB r)
set_option maxHeartbeats 2000000 in
theorem ain2_any (g : Int) (b b2 : Nat) (r : List (BitVec 64)) (a : Option Addr) (c : Nat) (w : World) (hr : RU w a r) (hc : w.cell? ⟨b, 0, none⟩ = some (.int .i64 g)) (hf : w.cell? ⟨b2, 0, none⟩ = some (.func (.func 59) #[] #[.pointer (some ⟨b, 0, none⟩)])) :
    Calls Tryd.prog 60 #[.slice a r.length c, .pointer (some ⟨b2, 0, none⟩)] w fun e w' => e = .returned (.bool (!rowIn g r)) ∧ Ext w w' := by
  have hfl := World.block_lt_of_cell? _ _ hf
  dsimp only at hfl
  have HOF : Hid (∀ W, Ext w W → Calls Tryd.prog 61 #[.slice a r.length c] W fun e w' => RetC (serB r) (refB r) (traB r) (eucB r) e W w') := Lib.hid fun W e => of_any r a c W (hr.ext e)
  have HI1 : Hid (∀ W, Ext w W → Calls Tryd.prog 59 #[.agg #[.bool (serB r), .bool (refB r), .bool (traB r), .bool (eucB r)], .pointer (some ⟨b, 0, none⟩)] W fun e w' => e = .returned (.bool (rowIn g r)) ∧ Ext W w') := Lib.hid fun W e => ain1_any g b _ _ _ _ W (e.cell hc)
  have HKP : Hid (∀ w', Ext w.drew w' → w'.cell? ⟨b2, 0, none⟩ = some (.func (.func 59) #[] #[.pointer (some ⟨b, 0, none⟩)])) := Lib.hid fun w' e => e.cell hf
  clear hr hc
  go_enter Tryd.func60, Tryd.ntmps60
  go_wp2_with fail
  go_region_held3 (fun w' => w'.cell? ⟨b2, 0, none⟩ = some (.func (.func 59) #[] #[.pointer (some ⟨b, 0, none⟩)])) (first | go_keep | exact HKP.out _ (by assumption)) (first | (go_at_call 61; refine (HOF.out _ (Ext.refl _).drew).mono ?_; rintro _ w3 ⟨rfl, hE3⟩) | (go_at_call 59; refine (HI1.out _ ((Ext.refl _).drew.trans hE3)).mono ?_; rintro _ w4 ⟨rfl, hE4⟩; have hE5 := hE3.trans hE4) | fail)
  all_goals
    go_wp2_with fail
    go_ret
    exact ⟨rfl, (Ext.refl _).drew.trans hE5⟩
/-- Whether the relations of an action model satisfy the conditions of a logic. -/
def acIn (A : Acn) (g : Int) : Bool := acErr A A.rel.length 8 == 0 && (decide (0 ≤ g) && decide (g ≤ 6)) && A.rel.all (rowIn g)
set_option maxRecDepth 20000 in
set_option maxHeartbeats 4000000 in
theorem ain_any (A : Acn) (pa qa ra : Option Addr) (pc qc rc : Nat) (g : Int) (w : World) (ha : RAc w pa qa ra A) :
    Calls Tryd.prog 23 #[.agg #[.slice pa A.pre.length pc, .slice qa A.post.length qc, .slice ra A.rel.length rc], .int .i64 g] w fun e w' => e = .returned (.bool (acIn A g)) ∧ Ext w w' := by
  have hE1 : Ext w (w.alloc (.cells #[.slice pa A.pre.length pc, .slice qa A.post.length qc, .slice ra A.rel.length rc] 45)) := (Ext.refl w).alloc _
  have hE2 : Ext (w.alloc (.cells #[.slice pa A.pre.length pc, .slice qa A.post.length qc, .slice ra A.rel.length rc] 45)) ((w.alloc (.cells #[.slice pa A.pre.length pc, .slice qa A.post.length qc, .slice ra A.rel.length rc] 45)).alloc (.cells #[.int .i64 g] 3)) := (Ext.refl _).alloc _
  have HO := Lib.hid ((OutAt.new w (.slice pa A.pre.length pc) (.slice qa A.post.length qc) (.slice ra A.rel.length rc) 45).ext hE2)
  have HB := Lib.hid ((Bx1.new (w.alloc (.cells #[.slice pa A.pre.length pc, .slice qa A.post.length qc, .slice ra A.rel.length rc] 45)) (.int .i64 g) 3).at (b' := w.heap.size + 1) (by simp))
  have HE := Lib.hid (hE1.trans hE2)
  have HA := Lib.hid (ha.ext (hE1.trans hE2))
  have hrl := ha.rel.len
  have HAL := Lib.hid (alone_any A pa qa ra pc qc rc _ (ha.ext (hE1.trans hE2)))
  clear ha hE1 hE2
  obtain ⟨o0, o1, o2, -⟩ := HO.out
  have ol := World.block_lt_of_cell? _ _ o0
  dsimp only at ol
  by_cases hk : acErr A A.rel.length 8 = 0
  rotate_left
  · have HQ : Hid (acIn A g = false) := Lib.hid (by unfold acIn; rw [show (acErr A A.rel.length 8 == 0) = false by simpa using hk]; rfl)
    have q1 : (acErr A A.rel.length 8 != 0) = true := by simpa using hk
    clear hk
    go_enter Tryd.func23, Tryd.ntmps23
    go_wp2_with fail
    refine HAL.out.mono ?_
    rintro _ w3 ⟨rfl, hE3⟩
    generalize acErr A A.rel.length 8 = er at *
    dsimp only
    go_wp2_with fail
    go_ret
    exact ⟨by rw [HQ.out]; rfl, HE.out.trans hE3⟩
  rw [hk] at HAL
  have HQ0 : Hid (acIn A g = ((decide (0 ≤ g) && decide (g ≤ 6)) && A.rel.all (rowIn g))) := Lib.hid (by unfold acIn; rw [hk]; rfl)
  clear hk
  by_cases hg : 0 ≤ g ∧ g ≤ 6
  rotate_left
  · have HQ : Hid (acIn A g = false) := Lib.hid (by
      rw [HQ0.out]
      by_cases h1 : 0 ≤ g
      · have h2 : ¬ g ≤ 6 := fun h => hg ⟨h1, h⟩
        simp [h1, h2]
      · simp [h1])
    clear HQ0
    by_cases h1 : g < 0
    · have e1 : decide (g < 0) = true := decide_eq_true h1
      clear hg h1
      go_enter Tryd.func23, Tryd.ntmps23
      go_wp2_with fail
      generalize (w.alloc (.cells #[.slice pa A.pre.length pc, .slice qa A.post.length qc, .slice ra A.rel.length rc] 45)).alloc (.cells #[.int .i64 g] 3) = w2 at *
      refine HAL.out.mono ?_
      rintro _ w3 ⟨rfl, hE3⟩
      have b0 := (HB.out.ext hE3).c
      have bl := (HB.out.ext hE3).lt
      dsimp only
      go_wp2_with fail
      go_ret
      exact ⟨by rw [HQ.out]; rfl, HE.out.trans (hE3.alloc _)⟩
    · have e1 : decide (g < 0) = false := decide_eq_false h1
      have e2 : decide ((6 : Int) < g) = true := decide_eq_true (by omega)
      clear hg h1
      go_enter Tryd.func23, Tryd.ntmps23
      go_wp2_with fail
      generalize (w.alloc (.cells #[.slice pa A.pre.length pc, .slice qa A.post.length qc, .slice ra A.rel.length rc] 45)).alloc (.cells #[.int .i64 g] 3) = w2 at *
      refine HAL.out.mono ?_
      rintro _ w3 ⟨rfl, hE3⟩
      have b0 := (HB.out.ext hE3).c
      have bl := (HB.out.ext hE3).lt
      dsimp only
      go_wp2_with fail
      go_ret
      exact ⟨by rw [HQ.out]; rfl, HE.out.trans (hE3.alloc _)⟩
  have e1 : decide (g < 0) = false := decide_eq_false (by omega)
  have e2 : decide ((6 : Int) < g) = false := decide_eq_false (by omega)
  have HQ : Hid (acIn A g = A.rel.all (rowIn g)) := Lib.hid (by rw [HQ0.out]; simp [hg.1, hg.2])
  clear HQ0 hg
  go_enter Tryd.func23, Tryd.ntmps23
  go_wp2_with fail
  generalize (w.alloc (.cells #[.slice pa A.pre.length pc, .slice qa A.post.length qc, .slice ra A.rel.length rc] 45)).alloc (.cells #[.int .i64 g] 3) = w2 at *
  refine HAL.out.mono ?_
  rintro _ w3 ⟨rfl, hE3⟩
  have HE3 := Lib.hid hE3
  have b0 := (HB.out.ext hE3).c
  have bl := (HB.out.ext hE3).lt
  clear o0 o1 o2 ol HAL
  obtain ⟨o0, o1, o2, -⟩ := HO.out.ext hE3
  have ol := World.block_lt_of_cell? _ _ o0
  clear hE3
  dsimp only at ol ⊢
  go_wp2_with fail
  have hE4 : Ext w3 (w3.alloc (.cells #[.func (.func 59) #[] #[.pointer (some ⟨w.heap.size + 1, 0, none⟩)]] 93)) := (Ext.refl _).alloc _
  have hfb := Bx1.new w3 (.func (.func 59) #[] #[.pointer (some ⟨w.heap.size + 1, 0, none⟩)]) 93
  have HFB := Lib.hid hfb
  have HE4 := Lib.hid (HE3.out.trans hE4)
  clear hE4 hfb
  refine (containsFunc_g 60 [.pointer (some ⟨w3.heap.size, 0, none⟩)] (fun r => !rowIn g r) ra A.rel rc _ (HA.out.rel.ext HE4.out) cf_ain2 (fun W a2 s c' e hs => ain2_any g (w.heap.size + 1) w3.heap.size s a2 c' W hs (HB.out.ext (HE4.out.trans e)).c (HFB.out.ext e).c)).mono ?_
  rintro _ w5 ⟨rfl, hE5⟩
  have HNA : Hid (A.rel.all (rowIn g) = !A.rel.any (fun r => !rowIn g r)) := Lib.hid (by
    rw [List.all_eq_not_any_not])
  generalize (A.rel.any fun r => !rowIn g r) = bb at *
  dsimp only
  go_wp2_with fail
  go_ret
  exact ⟨by rw [HQ.out, HNA.out]; rfl, HE.out.trans (HE4.out.trans hE5)⟩
end Wt

/- Walk: product.Worlds, its first half (the worlds in which each event is possible). -/
namespace Wt
open Go Go.RowKit Go.Maps Go.Proofs Fm

theorem reqErr_st (M : Mo) (f : List Nd) (h : moCheck M = 0) : reqErr M f = stErr f M.rel.length M.val.length := by
  unfold reqErr stErr
  rw [if_neg (by simp [h])]
/-- Where the events are possible, as far as it is known. -/
def psL (M : Mo) (A : Acn) (k : Nat) : List (BitVec 64) := (List.range A.pre.length).map fun e => if e < k then holdsOf M (nth A.pre e) else 0#64
theorem psL_len (M : Mo) (A : Acn) (k : Nat) : (psL M A k).length = A.pre.length := by simp [psL]
theorem psL_nth (M : Mo) (A : Acn) (k : Nat) {e : Nat} (h : e < A.pre.length) : nth (psL M A k) e = if e < k then holdsOf M (nth A.pre e) else 0#64 := nth_mapX _ h
theorem psL_zero (M : Mo) (A : Acn) : psL M A 0 = List.replicate A.pre.length 0#64 := by
  refine nth_ext (by simp [psL]) fun v hv => ?_
  rw [psL_len] at hv
  rw [psL_nth _ _ _ hv, if_neg (Nat.not_lt_zero _), nth_eq (List.replicate A.pre.length 0#64) _ (by simpa using hv)]
  simp
theorem psL_step (M : Mo) (A : Acn) {k : Nat} : (psL M A k).set k (holdsOf M (nth A.pre k)) = psL M A (k + 1) := by
  refine nth_ext (by rw [List.length_set, psL_len, psL_len]) fun v hv => ?_
  rw [List.length_set, psL_len] at hv
  rw [nth_eq _ _ (by rw [List.length_set, psL_len]; exact hv), List.getElem_set]
  by_cases e : k = v
  · subst e
    rw [if_pos rfl, psL_nth _ _ _ hv, if_pos (by omega)]
  · rw [if_neg e, ← nth_eq _ _ (by rw [psL_len]; exact hv), psL_nth _ _ _ hv, psL_nth _ _ _ hv]
    by_cases h1 : v < k
    · rw [if_pos h1, if_pos (by omega)]
    · rw [if_neg h1, if_neg (by omega)]
/-- The error of a product. -/
def prErr (M : Mo) (A : Acn) : Int := if moCheck M ≠ 0 then moCheck M else acErr A M.rel.length M.val.length
def RetWz (c : Int) (e : Ending) (w w' : World) : Prop := e = .returned (.tuple #[.slice none 0 0, .int .i64 c]) ∧ Ext w w'
set_option maxRecDepth 20000 in
set_option maxHeartbeats 4000000 in
/-- product.Worlds where the model or the action model has an error. -/
theorem worlds_bad (M : Mo) (A : Acn) (va ra pa qa sa : Option Addr) (vc rc pc qc sc : Nat) (w : World) (hm : RM w va ra M) (ha : RAc w pa qa sa A) (he : prErr M A ≠ 0) :
    Calls Tryd.prog 62 #[.agg #[.int .i64 M.worlds, .slice va M.val.length vc, .slice ra M.rel.length rc], .agg #[.slice pa A.pre.length pc, .slice qa A.post.length qc, .slice sa A.rel.length sc]] w fun e w' => RetWz (prErr M A) e w w' := by
  have hE1 : Ext w (w.alloc (.cells #[.int .i64 M.worlds, .slice va M.val.length vc, .slice ra M.rel.length rc] 25)) := (Ext.refl w).alloc _
  have hE2 : Ext (w.alloc (.cells #[.int .i64 M.worlds, .slice va M.val.length vc, .slice ra M.rel.length rc] 25)) ((w.alloc (.cells #[.int .i64 M.worlds, .slice va M.val.length vc, .slice ra M.rel.length rc] 25)).alloc (.cells #[.slice pa A.pre.length pc, .slice qa A.post.length qc, .slice sa A.rel.length sc] 45)) := (Ext.refl _).alloc _
  have HOM := Lib.hid ((OutAt.new w (.int .i64 M.worlds) (.slice va M.val.length vc) (.slice ra M.rel.length rc) 25).ext hE2)
  have HOA := Lib.hid (OutAt.new1 w (.cells #[.int .i64 M.worlds, .slice va M.val.length vc, .slice ra M.rel.length rc] 25) (.slice pa A.pre.length pc) (.slice qa A.post.length qc) (.slice sa A.rel.length sc) 45)
  have HE := Lib.hid (hE1.trans hE2)
  have HM := Lib.hid (hm.ext (hE1.trans hE2))
  have HA := Lib.hid (ha.ext (hE1.trans hE2))
  have hvl := hm.val.len
  have hrl := hm.rel.len
  have HMC := Lib.hid (modelCheck_any M va ra vc rc _ (hm.ext (hE1.trans hE2)))
  clear hm ha hE1 hE2
  obtain ⟨m0, m1, m2, -⟩ := HOM.out
  have ml := World.block_lt_of_cell? _ _ m0
  dsimp only at ml
  by_cases h1 : moCheck M = 0
  rotate_left
  · have HQ : Hid (prErr M A = moCheck M) := Lib.hid (if_pos h1)
    have q1 : (moCheck M != 0) = true := by simpa using h1
    clear h1 he
    go_enter Tryd.func62, Tryd.ntmps62
    go_wp2_with fail
    generalize (w.alloc (.cells #[.int .i64 M.worlds, .slice va M.val.length vc, .slice ra M.rel.length rc] 25)).alloc (.cells #[.slice pa A.pre.length pc, .slice qa A.post.length qc, .slice sa A.rel.length sc] 45) = w2 at *
    go_step3
    go_wp2_with fail
    refine HMC.out.mono ?_
    rintro _ w3 ⟨rfl, hE3⟩
    generalize moCheck M = er at *
    dsimp only
    go_wp2_with fail
    rw [Exit.noGoto_ret]
    go_ret2
    exact ⟨by rw [HQ.out]; rfl, HE.out.trans hE3⟩
  · rw [h1] at HMC
    have HQ : Hid (prErr M A = acErr A M.rel.length M.val.length) := Lib.hid (if_neg (by simp [h1]))
    rw [HQ.out] at he
    have q1 : (acErr A M.rel.length M.val.length != 0) = true := by simpa using he
    have HAC : Hid (∀ W, Ext ((w.alloc (.cells #[.int .i64 M.worlds, .slice va M.val.length vc, .slice ra M.rel.length rc] 25)).alloc (.cells #[.slice pa A.pre.length pc, .slice qa A.post.length qc, .slice sa A.rel.length sc] 45)) W → Calls Tryd.prog 22 #[.agg #[.slice pa A.pre.length pc, .slice qa A.post.length qc, .slice sa A.rel.length sc], .int .i64 (M.rel.length : Int), .int .i64 (M.val.length : Int)] W fun e w' => e = .returned (.int .i64 (acErr A M.rel.length M.val.length)) ∧ Ext W w') := Lib.hid fun W e => acheck_any A pa qa sa pc qc sc M.rel.length M.val.length W (HA.out.ext e)
    clear h1 he
    generalize acErr A M.rel.length M.val.length = er at *
    go_enter Tryd.func62, Tryd.ntmps62
    go_wp2_with fail
    generalize (w.alloc (.cells #[.int .i64 M.worlds, .slice va M.val.length vc, .slice ra M.rel.length rc] 25)).alloc (.cells #[.slice pa A.pre.length pc, .slice qa A.post.length qc, .slice sa A.rel.length sc] 45) = w2 at *
    go_step3
    go_wp2_with fail
    refine HMC.out.mono ?_
    rintro _ w3 ⟨rfl, hE3⟩
    have HE3 := Lib.hid hE3
    clear m0 m1 m2 ml HMC
    obtain ⟨m0, m1, m2, -⟩ := HOM.out.ext hE3
    obtain ⟨a0, a1, a2, -⟩ := HOA.out.ext hE3
    have ml := World.block_lt_of_cell? _ _ m0
    have al := World.block_lt_of_cell? _ _ a0
    clear hE3
    dsimp only at ml al ⊢
    go_wp2_with fail
    refine (HAC.out _ HE3.out).mono ?_
    rintro _ w4 ⟨rfl, hE4⟩
    dsimp only
    go_wp2_with fail
    rw [Exit.noGoto_ret]
    go_ret2
    exact ⟨by rw [HQ.out]; rfl, HE.out.trans (HE3.out.trans hE4)⟩
end Wt

/- Pairs of a world and an event, in memory (after XOdA, XOdB). -/
namespace Wt
open Go Go.RowKit Go.Maps Go.Proofs Fm

/-- A slice of pairs. -/
structure RPe (w : World) (a : Option Addr) (l : List (Nat × Nat)) : Prop where
  len : l.length ≤ 140737488355328
  at_ : ∀ k, k < l.length → ∃ b off, a = some ⟨b, off, none⟩ ∧ w.cell? ⟨b, off + k * 2, none⟩ = some (.int .i64 ((nth l k).1 : Int)) ∧ w.cell? ⟨b, off + k * 2 + 1, none⟩ = some (.int .i64 ((nth l k).2 : Int))
theorem RPe.ext {w w' : World} (h : Ext w w') {a : Option Addr} {l : List (Nat × Nat)} (r : RPe w a l) : RPe w' a l := ⟨r.len, fun k hk => let ⟨b, off, e, c, d⟩ := r.at_ k hk; ⟨b, off, e, h.cell c, h.cell d⟩⟩
theorem RPe.get {w : World} {a : Option Addr} {l : List (Nat × Nat)} (r : RPe w a l) {k : Nat} (hk : k < l.length) : ∃ b off, a = some ⟨b, off, none⟩ ∧ b < w.heap.size ∧ w.cell? ⟨b, off + k * 2, none⟩ = some (.int .i64 ((nth l k).1 : Int)) ∧ w.cell? ⟨b, off + k * 2 + 1, none⟩ = some (.int .i64 ((nth l k).2 : Int)) :=
  let ⟨b, off, e, c, d⟩ := r.at_ k hk; ⟨b, off, e, World.block_lt_of_cell? w _ c, c, d⟩
theorem RPe.nil (w : World) (a : Option Addr) : RPe w a [] := ⟨by simp, fun _ hk => absurd hk (by simp)⟩
def peCells (p : Nat × Nat) : List Value := [.int .i64 (p.1 : Int), .int .i64 (p.2 : Int)]
def rowE (l : List (Nat × Nat)) : List Value := l.flatMap peCells
theorem rowE_length (l : List (Nat × Nat)) : (rowE l).length = l.length * 2 := by
  unfold rowE; induction l with
  | nil => rfl
  | cons a l ih => rw [List.flatMap_cons, List.length_append, ih, List.length_cons]; simp [peCells]; omega
theorem rowE_get (l : List (Nat × Nat)) (k j : Nat) (hk : k < l.length) (hj : j < 2) : (rowE l)[k * 2 + j]? = (peCells (nth l k))[j]? := by
  induction l generalizing k with
  | nil => simp at hk
  | cons a l ih =>
    have hs : rowE (a :: l) = peCells a ++ rowE l := rfl
    rw [hs]
    cases k with
    | zero =>
      rw [Nat.zero_mul, Nat.zero_add, List.getElem?_append_left (by simpa [peCells] using hj)]; rfl
    | succ k =>
      rw [List.getElem?_append_right (by simp [peCells]; omega)]
      have : (k + 1) * 2 + j - (peCells a).length = k * 2 + j := by simp [peCells]; omega
      rw [this, ih k (by simpa using hk)]
      rfl
theorem rowE_append (l m : List (Nat × Nat)) : rowE (l ++ m) = rowE l ++ rowE m := by simp [rowE]
theorem RPe_of_own {w : World} {base e : Nat} {v : Value} {l : List (Nat × Nat)} (h : w.ownsRow base e 2 v l.length (rowE l)) (hl : l.length ≤ 140737488355328) : ∃ a c, v = .slice a l.length c ∧ RPe w a l := by
  rcases h.2 with ⟨rfl, h0⟩ | ⟨g, cap, cur, rfl, hb, hg, hnc, hcm, hcs, htake⟩
  · have : l = [] := List.eq_nil_of_length_eq_zero h0
    subst this
    exact ⟨none, 0, rfl, RPe.nil _ _⟩
  · have key : ∀ k j, k < l.length → j < 2 → w.cell? ⟨g, 0 + (k * 2 + j), none⟩ = (peCells (nth l k))[j]? := fun k j hk hj => by
      rw [cell_of_row w g _ cur e (0, 0) hg, Nat.zero_add, ← rowE_get l k j hk hj, ← htake, List.getElem?_take, if_pos (by omega)]
      simp
    refine ⟨some ⟨g, 0, none⟩, cap, rfl, hl, fun k hk => ⟨g, 0, rfl, ?_, ?_⟩⟩
    · have := key k 0 hk (by omega)
      simpa [peCells] using this
    · have := key k 1 hk (by omega)
      simpa [peCells, Nat.add_assoc] using this
/-- A pair is appended to a row of pairs. -/
theorem paire_news (w : World) (a b : Nat) (T : Nat) : ∀ j u, (peCells (a, b))[j]? = some u → (w.alloc (.cells #[.int .i64 (a : Int), .int .i64 (b : Int)] T)).cell? ((⟨w.heap.size, 0, none⟩ : Addr).add j) = some u := by
  intro j u hj
  rw [Addr.add_lit, Nat.zero_add]
  match j, hj with
  | 0, hj => simp [peCells] at hj; subst hj; simp
  | 1, hj => simp [peCells] at hj; subst hj; simp
  | j + 2, hj => simp [peCells] at hj
theorem paire_one (p : Nat × Nat) : ∀ u ∈ peCells p, u.oneCell' = true := by
  intro u hu
  simp only [peCells, List.mem_cons, List.not_mem_nil, or_false] at hu
  rcases hu with rfl | rfl <;> rfl
theorem paire_info : (Tryd.prog.info? 99).map (fun i => (i.zero, i.size, i.bytes)) = some (some (.agg #[.int .i64 0, .int .i64 0]), 2, 16) := by kernel_rfl
/-- The list of pairs under way, in a slot. -/
structure PrV (W0 : World) (l : List (Nat × Nat)) (v : Value) (w : World) : Prop where
  e : Ext W0 w
  own : w.ownsRow W0.heap.size 99 2 v l.length (rowE l)
section
variable {W0 w w' W1 : World} {l : List (Nat × Nat)} {v v' : Value}
theorem PrV.new (W0 : World) : PrV W0 [] (.slice none 0 0) W0 := ⟨Ext.refl _, World.ownsRow_nil _ _ _ _⟩
theorem PrV.ext' (h : PrV W0 l v w) (e : Ext w w') : PrV W0 l v w' := ⟨h.e.trans e, h.own.kept (row := none) ⟨e.os, e.tape, e.output, e.size, fun k hk _ => e.block k hk⟩ (by simp only [Value.ownBlock]; exact Classical.em _)⟩
theorem PrV.push (h : PrV W0 l v w) {p : Nat × Nat} (ho : W1.ownsRow W0.heap.size 99 2 v' (l.length + 1) (rowE l ++ peCells p)) (g : w.grownBy W1 v.ownBlock) : PrV W0 (l ++ [p]) v' W1 := by
  refine ⟨Below.grown h.e g h.e.size (fun k hk => (h.own.lt k hk).1), ?_⟩
  rw [rowE_append, List.length_append]
  simpa [rowE] using ho
theorem PrV.rp (h : PrV W0 l v w) (hl : l.length ≤ 1000) : ∃ a c, v = .slice a l.length c ∧ RPe w a l := RPe_of_own h.own (by omega)
end
end Wt
