/- Plain laws of observations: truth tables, the cells of who observes formulas. -/
import Derived.Test.YtaghfmcaikjobaaGreatMArr
import Derived.Test.YtaghfmcaikjobaaGreatMCkC
import Derived.Deep.QuietTactic
import Derived.BigQuiet
namespace Wt
open Go Go.RowKit Go.Proofs Fm

/-- The value of a propositional operator. -/
def pvN (e : Nat → Bool) (o i : Int) (x y : Bool) : Bool :=
  if o = 1 then true else if o = 3 then e i.toNat else if o = 4 then !x else if o = 5 then x && y else if o = 6 then x || y else if o = 7 then !x || y else if o = 8 then x == y else false
/-- The value of a propositional tree. -/
def pv (e : Nat → Bool) : Fm → Bool
  | .leaf o i _ _ => pvN e o i false false
  | .un o i _ _ x => pvN e o i (pv e x) false
  | .bin o i _ _ x y => pvN e o i (pv e x) (pv e y)
theorem pvN_leaf (e : Nat → Bool) {o : Int} (i : Int) (h : o < 4) (x y x' y' : Bool) : pvN e o i x y = pvN e o i x' y' := by
  unfold pvN; repeat (first | (split; · rfl) | rw [if_neg (by omega)])
theorem pvN_un (e : Nat → Bool) {o : Int} (i : Int) (h : o < 5) (x y y' : Bool) : pvN e o i x y = pvN e o i x y' := by
  unfold pvN; repeat (first | (split; · rfl) | rw [if_neg (by omega)])
theorem pv_node (e : Nat → Bool) {f : List Nd} (hw : Wf f) {k : Nat} (hk : k < f.length) (ho : (nth f k).op ≤ 8) (x y : Bool)
    (hx : 4 ≤ (nth f k).op → x = pv e (trAt f (nth f k).x.toNat)) (hy : 5 ≤ (nth f k).op → y = pv e (trAt f (nth f k).y.toNat)) : pv e (trAt f k) = pvN e (nth f k).op (nth f k).i x y := by
  have h1 := useOf_cases _ (nodeErr_ok (hw k hk)).1
  by_cases h4 : (nth f k).op < 4
  · have hu : (useOf (nth f k).op).1.x = false := by
      rcases (show (nth f k).op = 1 ∨ (nth f k).op = 2 ∨ (nth f k).op = 3 by omega) with e | e | e <;> rw [e] <;> rfl
    rw [trAt_leaf hk hu]
    exact pvN_leaf e _ h4 _ _ _ _
  · rw [hx (by omega)]
    by_cases h5 : (nth f k).op < 5
    · have e4 : (nth f k).op = 4 := by omega
      rw [trAt_un hw hk (by rw [e4]; rfl) (by rw [e4]; rfl)]
      exact pvN_un e _ h5 _ _ _
    · rw [hy (by omega)]
      have hu : (useOf (nth f k).op).1.y = true := by
        rcases (show (nth f k).op = 5 ∨ (nth f k).op = 6 ∨ (nth f k).op = 7 ∨ (nth f k).op = 8 by omega) with e | e | e | e <;> rw [e] <;> rfl
      rw [trAt_bin hw hk hu]
      rfl
/-- The set of the numbers below n with a property. -/
def setTo (p : Nat → Bool) : Nat → BitVec 64
  | 0 => 0#64
  | k + 1 => if p k then setTo p k ||| 1#64 <<< k else setTo p k
theorem bt_setTo (p : Nat → Bool) {k : Nat} (hk : k < 64) : ∀ n, bt (setTo p n) k = (decide (k < n) && p k)
  | 0 => by simp [setTo, bt_zero]
  | n + 1 => by
    unfold setTo
    by_cases h : p n = true
    · rw [if_pos h, bt_or, bt_setTo p hk n, bt_shl1]
      by_cases hkn : k = n
      · subst hkn; simp [hk, h]
      · have e : decide (k < n + 1) = decide (k < n) := by congr 1; exact propext ⟨fun _ => by omega, fun _ => by omega⟩
        rw [e]; simp [hk, hkn]
    · rw [if_neg h, bt_setTo p hk n]
      by_cases hkn : k = n
      · subst hkn; simp [h]
      · have e : decide (k < n + 1) = decide (k < n) := by congr 1; exact propext ⟨fun _ => by omega, fun _ => by omega⟩
        rw [e]
theorem setTo_congr {p q : Nat → Bool} {n : Nat} (h : ∀ k, k < n → p k = q k) : setTo p n = setTo q n := by
  induction n with
  | zero => rfl
  | succ n ih => unfold setTo; rw [ih fun k hk => h k (by omega), h n (by omega)]
/-- What is wrong with a truth table of n facts. -/
def tabErr (f : List Nd) (n : Int) : Int :=
  if fCheck f ≠ 0 then fCheck f else if fFrags f ≠ 0 then 10 else if n < 0 ∨ 6 < n ∨ fFits f 0 n.toNat = false then 2 else 0
/-- The truth table of n facts. -/
def tabOf (f : List Nd) (n : Int) : BitVec 64 := if tabErr f n = 0 then setTo (fun v => pv v.testBit (rt f)) (2 ^ n.toNat) else 0#64
theorem tabErr_ok {f : List Nd} {n : Int} (h : tabErr f n = 0) : fCheck f = 0 ∧ fFrags f = 0 ∧ 0 ≤ n ∧ n ≤ 6 ∧ fFits f 0 n.toNat = true := by
  unfold tabErr at h
  by_cases h1 : fCheck f = 0
  · rw [if_neg (by simp [h1])] at h
    by_cases h2 : fFrags f = 0
    · rw [if_neg (by simp [h2])] at h
      by_cases h3 : n < 0 ∨ 6 < n ∨ fFits f 0 n.toNat = false
      · rw [if_pos h3] at h; omega
      · refine ⟨h1, h2, by omega, by omega, ?_⟩
        cases h4 : fFits f 0 n.toNat
        · exact absurd (.inr (.inr h4)) h3
        · rfl
    · rw [if_pos h2] at h; omega
  · rw [if_pos h1] at h; exact absurd h h1
theorem tab_eq {f : List Nd} {n : Int} (h : tabErr f n = 0) : tabOf f n = setTo (fun v => pv v.testBit (rt f)) (2 ^ n.toNat) := if_pos h
theorem pow6 {n : Nat} (h : n ≤ 6) : 2 ^ n ≤ 64 := by
  have : 2 ^ n ≤ 2 ^ 6 := Nat.pow_le_pow_right (by decide) h
  omega
/-- The nodes of the short list of a propositional formula. -/
theorem prop_ops {f : List Nd} (h2 : fFrags f = 0) : ∀ n ∈ fCompact f, 1 ≤ n.op ∧ n.op ≤ 8 := fun n hn => by
  have h3 := (unionL_mem fragN _ 0 h2).2 n hn
  have h1 := ((fCompact_ok f).1 n hn).1
  have h4 := useOf_cases _ h1
  exact ⟨by omega, frag_prop h1 h3⟩
theorem unionL_zero (m : Nd → Nat) : ∀ (l : List Nd), (∀ n ∈ l, m n = 0) → l.foldl (fun a n => a ||| m n) 0 = 0
  | [], _ => rfl
  | x :: l, h => by
    show l.foldl _ (0 ||| m x) = 0
    rw [h x (by simp)]
    exact unionL_zero m l fun n hn => h n (by simp [hn])
theorem prop_frag {o : Int} (h : (useOf o).2 = true) (h2 : o ≤ 8) : (useOf o).1.frag.toNat = 0 ∧ (useOf o).1.agent = false ∧ (useOf o).1.group = false := by
  rcases useOf_cases o h with rfl | rfl | rfl | rfl | rfl | rfl | rfl | rfl | rfl | rfl | rfl | rfl | rfl | rfl | rfl | rfl | rfl | rfl | rfl | rfl | rfl <;> revert h2 <;> decide
theorem frags_of_ops {f : List Nd} (h : ∀ n ∈ fCompact f, n.op ≤ 8) : fFrags f = 0 := unionL_zero _ _ fun n hn => (prop_frag ((fCompact_ok f).1 n hn).1 (h n hn)).1
theorem agents_none {f : List Nd} (h2 : fFrags f = 0) : fAgents f = 0 := unionL_zero _ _ fun n hn => by
  have h3 := (fCompact_ok f).1 n hn
  obtain ⟨-, e1, e2⟩ := prop_frag h3.1 (prop_ops h2 n hn).2
  unfold agentN
  rw [e1, if_neg (by simp)]
  rw [h3.nogroup e2]; rfl
theorem below_zero (n : Nat) : below 0 n = true := by unfold below; simp
theorem fits_prop {f : List Nd} (h1 : fCheck f = 0) (h2 : fFrags f = 0) {n : Nat} (hn : n ≤ 6) : fFits f 0 n = (fFacts f >>> n == 0) := by
  unfold fFits
  rw [h1, agents_none h2, below_zero]
  unfold below
  rw [decide_eq_false (show ¬ 31 ≤ n by omega)]; simp
/-- A propositional formula's set holds the worlds at whose valuations it is true. -/
theorem sem_pv {M : Mo} {N : Nat} (ok : MoOk M N) : ∀ t, propT t → (semT M t).2 = true → ∀ k, k < N → bt (semT M t).1 k = pv (fun i => bt (nth M.val i) k) t := by
  have hNt : M.worlds.toNat = N := by rw [ok.worlds]; exact Int.toNat_natCast N
  have h64 := ok.most
  have key : ∀ (o i g : Int) (x y : BitVec 64) (bx by' : Bool) (k : Nat), o ≤ 8 → k < N → bt x k = bx → bt y k = by' → (valN M o i g x y).2 = true → bt (valN M o i g x y).1 k = pvN (fun i => bt (nth M.val i) k) o i bx by' := by
    intro o i g x y bx by' k ho hk hx hy h
    subst hx hy
    have hk64 : k < 64 := by omega
    unfold valN pvN at *
    rw [hNt] at *
    by_cases e1 : o = 1
    · simp only [e1, if_true]; rw [bt_allW]; simp [hk64, hk]
    by_cases e2 : o = 2
    · subst e2; simp [bt_zero]
    by_cases e3 : o = 3
    · subst e3
      simp at h ⊢
      by_cases hi : (M.val.length : Int) ≤ i
      · rw [if_pos hi] at h; cases h
      · rw [if_neg hi]
    by_cases e4 : o = 4
    · subst e4; simp [bt_and, bt_not, bt_allW, hk64, hk]
    by_cases e5 : o = 5
    · subst e5; simp [bt_and]
    by_cases e6 : o = 6
    · subst e6; simp [bt_or]
    by_cases e7 : o = 7
    · subst e7; simp [bt_or, bt_and, bt_not, bt_allW, hk64, hk]
    by_cases e8 : o = 8
    · subst e8; simp [bt_xor, bt_and, bt_not, bt_allW, hk64, hk]; cases bt x k <;> cases bt y k <;> rfl
    exfalso
    rw [if_neg e1, if_neg e2, if_neg e3, if_neg e4, if_neg e5, if_neg e6, if_neg e7, if_neg e8] at h
    rw [if_neg (by omega), if_neg (by omega), if_neg (by omega), if_neg (by omega), if_neg (by omega)] at h
    cases h
  intro t
  induction t with
  | leaf o i e g => intro hp h k hk; exact key o i g _ _ _ _ k hp hk (bt_zero k) (bt_zero k) h
  | un o i e g x ih =>
    intro hp h k hk
    simp only [semT] at h ⊢
    by_cases hx : (semT M x).2 = true
    · rw [if_pos hx] at h ⊢
      exact key o i g _ _ _ _ k hp.1 hk (ih hp.2 hx k hk) (bt_zero k) h
    · rw [if_neg hx] at h; cases h
  | bin o i e g x y ih1 ih2 =>
    intro hp h k hk
    simp only [semT] at h ⊢
    by_cases hx : ((semT M x).2 && (semT M y).2) = true
    · rw [if_pos hx] at h ⊢
      rw [Bool.and_eq_true] at hx
      exact key o i g _ _ _ _ k hp.1 hk (ih1 hp.2.1 hx.1 k hk) (ih2 hp.2.2 hx.2 k hk) h
    · rw [if_neg hx] at h; cases h
end Wt

/- Walks: wittingref01.bit, Has, All, Members, Count, Same. -/
namespace Wt
open Go Go.RowKit Go.Maps Go.Proofs Fm

theorem bit_and_ne (s : BitVec 64) {n : Nat} (h : n < 64) : ((s &&& 1#64 <<< n) != 0#64) = bt s n := by
  unfold bt
  have e : (s &&& 1#64 <<< n) = 0#64 ↔ s.getLsbD n = false := by
    constructor
    · intro h1
      have := congrArg (fun x => BitVec.getLsbD x n) h1
      simpa [h] using this
    · intro h1
      apply BitVec.eq_of_getLsbD_eq
      intro i hi
      simp only [BitVec.getLsbD_and, BitVec.getLsbD_shiftLeft, BitVec.getLsbD_one, BitVec.getLsbD_zero]
      by_cases hin : i = n
      · subst hin; simp [h1]
      · by_cases h2 : i < n
        · simp [h2]
        · have : ¬ (i - n = 0) := by omega
          simp [this]
  cases hb : s.getLsbD n
  · rw [e.2 hb]; rfl
  · have : ¬ (s &&& 1#64 <<< n) = 0#64 := fun h1 => by rw [e.1 h1] at hb; cases hb
    simpa using this
theorem allW_set {n : Nat} (_h : n ≤ 64) : setTo (fun _ => true) n = allW n := by
  apply BitVec.eq_of_getLsbD_eq
  intro i hi
  have h1 := bt_setTo (fun _ => true) hi n
  have h2 := bt_allW (k := i) n
  unfold bt at h1 h2
  rw [h1, h2]
  simp [hi]
set_option maxHeartbeats 1000000 in
theorem r01bit_any (n : Nat) (w : World) (h : n < 64) :
    Calls Tryz.prog 37 #[.int .i64 (n : Int)] w fun e w' => e = .returned (.int .u64 (un (1#64 <<< n))) ∧ w = w' := by
  go_enter Tryz.func37, Tryz.ntmps37
  go_wp2
  go_ret
  exact ⟨rfl, rfl⟩
set_option maxHeartbeats 1000000 in
theorem r01Has_any (s : BitVec 64) (i : Int) (w : World) :
    Calls Tryz.prog 23 #[.int .u64 (un s), .int .i64 i] w fun e w' => e = .returned (.bool (hasW s i)) ∧ w = w' := by
  by_cases h0 : 0 ≤ i
  · obtain ⟨n, rfl⟩ := Int.eq_ofNat_of_zero_le h0
    by_cases h1 : n < 64
    · have HB := Lib.hid (bit_and_ne s h1)
      go_enter Tryz.func23, Tryz.ntmps23
      go_wp2_with (go_at_call 37; refine (r01bit_any n _ h1).mono ?_; rintro _ _ ⟨rfl, rfl⟩)
      go_ret
      exact ⟨by rw [HB.out, hasW_nat]; rfl, rfl⟩
    · have h2 : bt s n = false := BitVec.getLsbD_of_ge _ _ (by omega)
      have H2 := Lib.hid h2
      clear h2
      go_enter Tryz.func23, Tryz.ntmps23
      go_wp2
      go_ret
      exact ⟨by simp [hasW, H2.out], rfl⟩
  · go_enter Tryz.func23, Tryz.ntmps23
    go_wp2
    go_ret
    refine ⟨?_, rfl⟩
    unfold hasW
    rw [if_neg (by omega)]
    rfl
set_option maxHeartbeats 1000000 in
theorem r01Same_any (a b : Option Addr) (ac bc : Nat) (s t : List Int) (w : World) (ha : RI w a s) (hb : RI w b t) :
    Calls Tryz.prog 14 #[.slice a s.length ac, .slice b t.length bc] w fun e w' => e = .returned (.bool (decide (s = t))) ∧ Qu w w' := by
  have hl := ha.len
  have hl2 := hb.len
  by_cases hlen : s.length = t.length
  · have hL : ((s.length : Int) != (t.length : Int)) = false := by simp [hlen]
    go_enter Tryz.func14, Tryz.ntmps14
    go_wp2
    go_loopw [5] (fun i wr => ∃ k : Nat, k ≤ s.length ∧ i = .int .i64 k ∧ Qu w wr ∧ Hid (∀ j, j < k → nth s j = nth t j)) (fun i _ => s.length - (intOf i).toNat)
    case atStart => exact ⟨0, Nat.zero_le _, rfl, Qu.refl _, fun _ h => absurd h (Nat.not_lt_zero _)⟩
    case round =>
      obtain ⟨k, hk, rfl, hE, hno⟩ := hrel
      by_cases hlt : k < s.length
      · obtain ⟨b1, off1, rfl, hb1, hc1⟩ := (ha.ext hE.ext).get hlt
        obtain ⟨b2, off2, rfl, hb2, hc2⟩ := (hb.ext hE.ext).get (k := k) (by omega)
        have hkt : k < t.length := by omega
        have hkI : (k : Int) < (t.length : Int) := by omega
        by_cases hq : nth s k = nth t k
        · have HQ := Lib.hid hq
          rw [hq] at hc1
          have hq2 : (nth t k != nth t k) = false := by simp
          clear hq
          go_wp2_with fail
          go_quiet (fail)
          go_wp2
          go_roundw
          case rel => exact ⟨k + 1, hlt, by go_num, hE.drewN _, fun j hj => by
            rcases Nat.lt_or_ge j k with h | h
            · exact hno.out j h
            · obtain rfl : j = k := by omega
              exact HQ.out⟩
          case measure => simp [intOf]; omega
        · have hv : decide (s = t) = false := decide_eq_false fun e => hq (by rw [e])
          have HV := Lib.hid hv
          have hq2 : (nth s k != nth t k) = true := by simp [hq]
          clear hv hq
          go_wp2_with fail
          go_quiet (fail)
          go_wp2
          go_ret
          exact ⟨by rw [HV.out]; rfl, hE.drewN _⟩
      · have hv : decide (s = t) = true := by
          rw [decide_eq_true_eq]
          apply List.ext_getElem hlen
          intro j h1 h2
          have := hno.out j (by omega)
          rwa [nth_eq _ _ h1, nth_eq _ _ h2] at this
        have HV := Lib.hid hv
        clear hv
        go_wp2
        go_ret
        exact ⟨by rw [HV.out]; rfl, hE⟩
  · have hv : decide (s = t) = false := decide_eq_false fun e => hlen (by rw [e])
    have HV := Lib.hid hv
    have hL : ((s.length : Int) != (t.length : Int)) = true := by simp; omega
    clear hv
    go_enter Tryz.func14, Tryz.ntmps14
    go_wp2
    go_ret
    exact ⟨by rw [HV.out]; rfl, Qu.refl _⟩
end Wt

/- Walks: boolean.isPropositional, combine, value. -/
namespace Wt
open Go Go.RowKit Go.Proofs Fm

set_option maxHeartbeats 1000000 in
theorem isProp_any (o : Int) (w : World) : Calls Tryz.prog 75 #[.int .i64 o] w fun e w' => e = .returned (.bool (decide (o ≤ 8))) ∧ w = w' := by
  go_enter Tryz.func75, Tryz.ntmps75
  go_wp2
  go_ret
  exact ⟨rfl, rfl⟩
/-- The value of an operator but a fact. -/
def cmbN (o : Int) (x y : Bool) : Bool := pvN (fun _ => false) o 0 x y
theorem pvN_cmb (e : Nat → Bool) {o : Int} (i : Int) (x y : Bool) (h : o ≠ 3) : pvN e o i x y = cmbN o x y := by
  unfold cmbN pvN; rw [if_neg h, if_neg h]
theorem pvN_fact (e : Nat → Bool) (i : Int) (x y : Bool) : pvN e 3 i x y = e i.toNat := by unfold pvN; simp
set_option maxHeartbeats 1000000 in
theorem combine_any (o : Int) (x y : Bool) (w : World) (h3 : o ≠ 3) : Calls Tryz.prog 76 #[.int .i64 o, .bool x, .bool y] w fun e w' => e = .returned (.bool (cmbN o x y)) ∧ w = w' := by
  have H := Lib.hid h3
  clear h3
  go_enter Tryz.func76, Tryz.ntmps76
  go_wp2
  all_goals
    have h3 := H.out
    simp only [beq_iff_eq, beq_eq_false_iff_ne] at *
    go_ret
    refine ⟨?_, rfl⟩
    congr 2
    simp [cmbN, pvN, *]
/-- What a round of value keeps. -/
def ValAt (W0 wr : World) (e : Nat → Bool) (f : List Nd) (g k : Nat) : Prop := Ext W0 wr ∧ OG wr W0.heap.size 4 Value.bool g f.length f.length (doneL f.length k (fun j => pv e (trAt f j)) false)
theorem ValAt.mono {W0 wr w2 : World} {e : Nat → Bool} {f : List Nd} {g k : Nat} (h : ValAt W0 wr e f g k) (x : Ext wr w2) : ValAt W0 w2 e f g k := ⟨h.1.trans x, h.2.ext x⟩
theorem ValAt.put {W0 wr : World} {e : Nat → Bool} {f : List Nd} {g k : Nat} (h : ValAt W0 wr e f g k) (hk : k < f.length) {b : Bool} (hb : pv e (trAt f k) = b) : ValAt W0 (wr.setCell ⟨g, k, none⟩ (.bool b)) e f g (k + 1) := by
  subst hb
  refine ⟨h.1.setCell h.2.base_le _, ?_⟩
  rw [← doneL_set _ _ _ _ hk]
  exact h.2.set k _
set_option maxRecDepth 20000 in
set_option maxHeartbeats 4000000 in
theorem bvalue_any (F : Nat) (c d : Value) (fa : Option Addr) (fc : Nat) (f : List Nd) (w : World) (hr : RN w fa f) (hw : Wf f) (h1 : 1 ≤ f.length) (h200 : f.length ≤ 200) (e : Nat → Bool) (hop : ∀ k, k < f.length → (nth f k).op ≤ 8)
    (hF : ∀ args W, (callFunc F args).run Tryz.prog W = .ok (.enter F args) W)
    (hp : ∀ W k, Ext w W → k < f.length → Calls Tryz.prog F #[.int .i64 (k : Int), c, d] W fun en w' => en = .returned (.bool (e (nth f k).i.toNat)) ∧ Qu W w') :
    Calls Tryz.prog 47 #[.slice fa f.length fc, .func (.func F) #[] #[c, d]] w fun en w' => en = .returned (.bool (pv e (rt f))) ∧ Ext w w' := by
  have mk2 := fun (w : World) => run_make_row' (P := Tryz.prog) 71 4 (.bool false) 1 Tryz.underlying71 bool_info rfl .i64 .i64 f.length (by omega) (by omega) w
  have HP := Lib.hid hp
  have HR := Lib.hid hr
  have HW := Lib.hid hw
  have HOP := Lib.hid hop
  have hfl := hr.len
  have H1 := Lib.hid h1
  have hS0 : ValAt w (w.alloc (.cells (madeCells #[.bool false] f.length) 4)) e f w.heap.size 0 := by
    refine ⟨(Ext.refl w).alloc _, ?_⟩
    rw [doneL_zero]
    exact OG.made (enc := Value.bool) w f.length false (Nat.le_refl _) hfl
  have HS0 := Lib.hid hS0
  clear hp hr hw hop hS0 h1 h200
  go_enter Tryz.func47, Tryz.ntmps47
  go_wp2
  generalize w.heap.size = g at HS0 ⊢
  generalize w.alloc (.cells (madeCells #[.bool false] f.length) 4) = wl at HS0 ⊢
  go_loopw [13] (fun i wr => ∃ k : Nat, k ≤ f.length ∧ i = .int .i64 k ∧ ValAt w wr e f g k) (fun i _ => f.length - (intOf i).toNat)
  case atStart => exact ⟨0, Nat.zero_le _, rfl, HS0.out⟩
  case round =>
    obtain ⟨k, hk, rfl, hs⟩ := hrel
    have HS := Lib.hid hs
    clear HS0
    by_cases hlt : k < f.length
    · obtain ⟨b, off, rfl, hb, n0, n1, n2, n3, n4, n5⟩ := (HR.out.ext hs.1).get hlt
      obtain ⟨X, hX, hXl, hXk⟩ := nd_x HW.out hlt
      obtain ⟨Y, hY, hYl, hYk⟩ := nd_y HW.out hlt
      rw [hX] at n4
      rw [hY] at n5
      have bx := hs.2.cell hXl
      have by1 := hs.2.cell hYl
      have bl := hs.2.lt
      have bf := hs.2.frozen k
      have bc := hs.2.cell hlt
      have hpv : ∀ x y : Bool, (4 ≤ (nth f k).op → x = pv e (trAt f (nth f k).x.toNat)) → (5 ≤ (nth f k).op → y = pv e (trAt f (nth f k).y.toNat)) → pv e (trAt f k) = pvN e (nth f k).op (nth f k).i x y := fun x y hx hy => pv_node e HW.out hlt (HOP.out k hlt) x y hx hy
      have h8 := HOP.out k hlt
      have hd8 : decide ((nth f k).op ≤ 8) = true := decide_eq_true h8
      have h4k := fun h => hXk h
      have h5k : 5 ≤ (nth f k).op → Y < k := fun h => hYk (.inl ⟨h, h8⟩)
      rw [hX, hY, Int.toNat_natCast, Int.toNat_natCast] at hpv
      generalize hBX : nth (doneL f.length k (fun j => pv e (trAt f j)) false) X = sx at bx
      generalize hBY : nth (doneL f.length k (fun j => pv e (trAt f j)) false) Y = sy at by1
      have hv : pv e (trAt f k) = pvN e (nth f k).op (nth f k).i sx sy := hpv sx sy
        (fun h => by rw [← hBX, doneL_nth _ _ _ _ hXl, if_pos (h4k h)])
        (fun h => by rw [← hBY, doneL_nth _ _ _ _ hYl, if_pos (h5k h)])
      have HP2 : Hid (∀ W, Ext w W → Calls Tryz.prog F #[.int .i64 (k : Int), c, d] W fun en w' => en = .returned (.bool (e (nth f k).i.toNat)) ∧ Qu W w') := Lib.hid fun W hW => HP.out W k hW hlt
      clear hBX hBY hX hXk hY hYk hpv h4k h5k h8
      generalize (nth f k).op = op at n0 hv hd8
      generalize (nth f k).i = ni at n1 hv HP2
      generalize (nth f k).e = ne at n2
      generalize (nth f k).g = ng at n3
      by_cases h3 : op = 3
      · subst h3
        have hv2 : pv e (trAt f k) = e ni.toNat := by rw [hv, pvN_fact]
        have HV := Lib.hid hv2
        clear hv hv2
        go_upto_region 6 with (go_at_call 75; refine (isProp_any _ _).mono ?_; rintro _ _ ⟨rfl, rfl⟩)
        go_wp2_with fail
        refine (HP2.out _ (HS.out.1.alloc _)).mono ?_
        rintro _ w2 ⟨rfl, hq⟩
        have hs2 := HS.out.mono (((Ext.refl wr).alloc _).trans hq.ext)
        have zf := hs2.2.frozen k
        have zc := hs2.2.cell hlt
        have zl := hs2.2.lt
        have HS2 := Lib.hid hs2
        clear hs hs2 HS hq n0 n1 n2 n3 n4 n5 bx by1 bl bf bc
        go_wp2
        go_roundw
        case rel => exact ⟨k + 1, hlt, by go_num, HS2.out.put hlt HV.out⟩
        case measure => simp [intOf]; omega
      · have hd3 : (op == 3) = false := by simp [h3]
        have hv2 : pv e (trAt f k) = cmbN op sx sy := by rw [hv, pvN_cmb e ni sx sy h3]
        have HV := Lib.hid hv2
        have H3 := Lib.hid h3
        clear hv hv2 h3
        go_upto_region 7 with (go_at_call 75; refine (isProp_any _ _).mono ?_; rintro _ _ ⟨rfl, rfl⟩)
        have hs3 := HS.out.mono ((Ext.refl wr).alloc (.cells #[.int .i64 op, .int .i64 ni, .int .i64 ne, .int .i64 ng, .int .i64 (X : Int), .int .i64 (Y : Int)] 62))
        have z0 : (wr.alloc (.cells #[.int .i64 op, .int .i64 ni, .int .i64 ne, .int .i64 ng, .int .i64 (X : Int), .int .i64 (Y : Int)] 62)).cell? ⟨wr.heap.size, 0, none⟩ = some (.int .i64 op) := by simp
        have z4 : (wr.alloc (.cells #[.int .i64 op, .int .i64 ni, .int .i64 ne, .int .i64 ng, .int .i64 (X : Int), .int .i64 (Y : Int)] 62)).cell? ⟨wr.heap.size, 4, none⟩ = some (.int .i64 (X : Int)) := by simp
        have z5 : (wr.alloc (.cells #[.int .i64 op, .int .i64 ni, .int .i64 ne, .int .i64 ng, .int .i64 (X : Int), .int .i64 (Y : Int)] 62)).cell? ⟨wr.heap.size, 5, none⟩ = some (.int .i64 (Y : Int)) := by simp
        have zx := ((Ext.refl wr).alloc (.cells #[.int .i64 op, .int .i64 ni, .int .i64 ne, .int .i64 ng, .int .i64 (X : Int), .int .i64 (Y : Int)] 62)).cell bx
        have zy := ((Ext.refl wr).alloc (.cells #[.int .i64 op, .int .i64 ni, .int .i64 ne, .int .i64 ng, .int .i64 (X : Int), .int .i64 (Y : Int)] 62)).cell by1
        have HS3 := Lib.hid hs3
        have zf := hs3.2.frozen k
        have zc := hs3.2.cell hlt
        have zl := hs3.2.lt
        clear hs hs3 HS n0 n1 n2 n3 n4 n5 bx by1 bl bf bc
        generalize wr.heap.size = nb at *
        generalize wr.alloc (.cells #[.int .i64 op, .int .i64 ni, .int .i64 ne, .int .i64 ng, .int .i64 (X : Int), .int .i64 (Y : Int)] 62) = wl2 at *
        refine wp_region_still_tail 16 (by kernel_rfl) (by kernel_rfl) ?_
        simp only [List.take_succ_cons, List.take_zero, List.drop_succ_cons, List.drop_zero]
        repeat still_step
        still_call ((combine_any _ _ _ _ H3.out).mono fun _ _ h => ⟨h.1, h.2.symm⟩)
        repeat still_step
        refine wpStill_nil ?_
        have zf2 : wl2.drew.frozen? ⟨g, k, none⟩ = false := zf
        have zc2 : wl2.drew.cell? ⟨g, k, none⟩ = some (.bool (nth (doneL f.length k (fun j => pv e (trAt f j)) false) k)) := zc
        have HS4 := Lib.hid (HS3.out.mono (Ext.refl wl2).drew)
        change wpList _ _ _ _ _ wl2.drew
        generalize wl2.drew = wd at HS4 zf2 zc2 ⊢
        clear zf zc zx zy z0 z4 z5
        go_wp2
        go_roundw
        case rel => exact ⟨k + 1, hlt, by go_num, HS4.out.put hlt HV.out⟩
        case measure => simp [intOf]; omega
    · obtain rfl : k = f.length := by omega
      have hs2 := HS.out.2
      rw [doneL_all] at hs2
      have h1 := H1.out
      have hc := hs2.cell (k := f.length - 1) (by omega)
      have e1 : (f.length : Int) - 1 = ((f.length - 1 : Nat) : Int) := by omega
      have e2 : nth ((List.range f.length).map fun j => pv e (trAt f j)) (f.length - 1) = pv e (rt f) := by
        rw [nth_mapN _ _ (by simp; omega), nth_range (by omega)]; rfl
      rw [e2] at hc
      have hlm : f.length - 1 < f.length := by omega
      have bl := hs2.lt
      clear hs2 hs
      go_wp2
      go_ret
      exact ⟨rfl, HS.out.1⟩
end Wt

/- Walk: boolean.Table. -/
namespace Wt
open Go Go.RowKit Go.Proofs Fm

theorem cf_table1 (args : Array Value) (W : World) : (callFunc 48 args).run Tryz.prog W = .ok (.enter 48 args) W := by
  simp [callFunc, Tryz.func48, Tryz.f48]
set_option maxHeartbeats 1000000 in
theorem table1_any (v k b1 b2 : Nat) (fa : Option Addr) (fc : Nat) (f : List Nd) (w : World) (hv : v < 9223372036854775808) (h1 : w.cell? ⟨b1, 0, none⟩ = some (.int .i64 (v : Int))) (h2 : w.cell? ⟨b2, 0, none⟩ = some (.slice fa f.length fc)) (hr : RN w fa f) (hk : k < f.length) (hi : 0 ≤ (nth f k).i) :
    Calls Tryz.prog 48 #[.int .i64 (k : Int), .pointer (some ⟨b1, 0, none⟩), .pointer (some ⟨b2, 0, none⟩)] w fun e w' => e = .returned (.bool (v.testBit (nth f k).i.toNat)) ∧ Qu w w' := by
  obtain ⟨b, off, rfl, hb, n0, n1, n2, n3, n4, n5⟩ := hr.get hk
  obtain ⟨I, hI⟩ := Int.eq_ofNat_of_zero_le hi
  rw [hI] at n1 ⊢
  simp only [Int.toNat_natCast]
  have hl := World.block_lt_of_cell? _ _ h1
  have hl2 := World.block_lt_of_cell? _ _ h2
  have hfl := hr.len
  clear hr hi hI n0 n2 n3 n4 n5
  cases hb : v.testBit I
  · have hb0 : b01 v I = 0 := by simp [b01, hb]
    clear hb
    go_enter Tryz.func48, Tryz.ntmps48
    go_wp2_with fail
    go_quiet (fail)
    go_wp2
    go_ret
    exact ⟨rfl, (Qu.refl _).drewN _⟩
  · have hb0 : b01 v I = 1 := by simp [b01, hb]
    clear hb
    go_enter Tryz.func48, Tryz.ntmps48
    go_wp2_with fail
    go_quiet (fail)
    go_wp2
    go_ret
    exact ⟨rfl, (Qu.refl _).drewN _⟩
theorem compact_wfT {f : List Nd} (h : fCheck f = 0) : Wf (fCompact f) ∧ rt (fCompact f) = rt f ∧ 1 ≤ (fCompact f).length := by
  have If := IsF.of h
  have hk := If.fk
  rw [If.compact]
  exact ⟨canon_wf _ hk, trAt_canon _ hk, by rw [canon_length]; exact fsize_pos _⟩
set_option maxRecDepth 20000 in
set_option maxHeartbeats 4000000 in
theorem table_any (fa : Option Addr) (fc : Nat) (f : List Nd) (n : Int) (w : World) (hf : RN w fa f) :
    Calls Tryz.prog 28 #[.slice fa f.length fc, .int .i64 n] w fun e w' => RetP (.int .u64 (un (tabOf f n))) (tabErr f n) e w w' := by
  have HC := Lib.hid (check_any fa fc f w hf)
  have HF := Lib.hid hf
  by_cases h1 : fCheck f = 0
  rotate_left
  · have hn : tabErr f n = fCheck f := by unfold tabErr; rw [if_pos h1]
    have hn2 : tabOf f n = 0#64 := by unfold tabOf; rw [if_neg (by rw [hn]; exact h1)]
    have hq : (fCheck f != 0) = true := by simp [h1]
    have HN := Lib.hid hn
    have HN2 := Lib.hid hn2
    clear hn hn2 h1 hf
    go_enter Tryz.func28, Tryz.ntmps28
    go_wp2_with (go_at_call 43; refine (HC.out).mono ?_; rintro e w1 ⟨rfl, hE1⟩)
    go_ret2
    exact ⟨by rw [HN.out, HN2.out]; rfl, hE1⟩
  have H1 := Lib.hid h1
  by_cases h2 : fFrags f = 0
  rotate_left
  · have hn : tabErr f n = 10 := by unfold tabErr; rw [if_neg (by simp [h1]), if_pos h2]
    have hn2 : tabOf f n = 0#64 := by unfold tabOf; rw [if_neg (by rw [hn]; omega)]
    have hq : ((fFrags f : Int) != 0) = true := by simp [h2]
    have HN := Lib.hid hn
    have HN2 := Lib.hid hn2
    clear hn hn2 h1 h2 hf
    go_enter Tryz.func28, Tryz.ntmps28
    go_wp2_with (first | (go_at_call 43; refine (HC.out).mono ?_; rintro e w1 ⟨rfl, hE1⟩; rw [H1.out]) | (go_at_call 44; refine (frags_any _ _ _ _ (HF.out.ext hE1)).mono ?_; rintro e w2 ⟨rfl, hE2⟩))
    go_ret2
    exact ⟨by rw [HN.out, HN2.out]; rfl, hE1.trans hE2⟩
  have H2 := Lib.hid h2
  have hq2 : ((fFrags f : Int) != 0) = false := by simp [h2]
  by_cases h3 : n < 0
  · have hn : tabErr f n = 2 := by unfold tabErr; rw [if_neg (by simp [h1]), if_neg (by simp [h2]), if_pos (.inl h3)]
    have hn2 : tabOf f n = 0#64 := by unfold tabOf; rw [if_neg (by rw [hn]; omega)]
    have hd : decide (n < 0) = true := decide_eq_true h3
    have HN := Lib.hid hn
    have HN2 := Lib.hid hn2
    cases h6 : decide (6 < n)
    all_goals
      clear hn hn2 h1 h2 h3 hf
      go_enter Tryz.func28, Tryz.ntmps28
      go_wp2_with (first | (go_at_call 43; refine (HC.out).mono ?_; rintro e w1 ⟨rfl, hE1⟩; rw [H1.out]) | (go_at_call 44; refine (frags_any _ _ _ _ (HF.out.ext hE1)).mono ?_; rintro e w2 ⟨rfl, hE2⟩))
      go_ret2
      exact ⟨by rw [HN.out, HN2.out]; rfl, hE1.trans hE2⟩
  obtain ⟨N, rfl⟩ := Int.eq_ofNat_of_zero_le (show 0 ≤ n by omega)
  have hd : decide ((N : Int) < 0) = false := decide_eq_false h3
  by_cases h6 : 6 < N
  · have hn : tabErr f N = 2 := by unfold tabErr; rw [if_neg (by simp [h1]), if_neg (by simp [h2]), if_pos (.inr (.inl (by omega)))]
    have hn2 : tabOf f N = 0#64 := by unfold tabOf; rw [if_neg (by rw [hn]; omega)]
    have hd6 : decide ((6 : Int) < N) = true := decide_eq_true (by omega)
    have HN := Lib.hid hn
    have HN2 := Lib.hid hn2
    clear hn hn2 h1 h2 h3 hf h6
    go_enter Tryz.func28, Tryz.ntmps28
    go_wp2_with (first | (go_at_call 43; refine (HC.out).mono ?_; rintro e w1 ⟨rfl, hE1⟩; rw [H1.out]) | (go_at_call 44; refine (frags_any _ _ _ _ (HF.out.ext hE1)).mono ?_; rintro e w2 ⟨rfl, hE2⟩))
    go_ret2
    exact ⟨by rw [HN.out, HN2.out]; rfl, hE1.trans hE2⟩
  have hd6 : decide ((6 : Int) < N) = false := decide_eq_false (by omega)
  cases h7 : fFits f 0 N
  · have hn : tabErr f N = 2 := by unfold tabErr; rw [if_neg (by simp [h1]), if_neg (by simp [h2]), if_pos (.inr (.inr (by simpa using h7)))]
    have hn2 : tabOf f N = 0#64 := by unfold tabOf; rw [if_neg (by rw [hn]; omega)]
    have HN := Lib.hid hn
    have HN2 := Lib.hid hn2
    have H7 := Lib.hid h7
    clear hn hn2 h1 h2 h3 hf h6 h7
    go_enter Tryz.func28, Tryz.ntmps28
    go_wp2_with (first | (go_at_call 43; refine (HC.out).mono ?_; rintro e w1 ⟨rfl, hE1⟩; rw [H1.out]) | (go_at_call 44; refine (frags_any _ _ _ _ (HF.out.ext hE1)).mono ?_; rintro e w2 ⟨rfl, hE2⟩) | (go_at_call 45; refine (fits_any fa fc f 0 N _ (HF.out.ext (hE1.trans hE2))).mono ?_; rintro e w3 ⟨rfl, hE3⟩; rw [H7.out]))
    go_ret2
    exact ⟨by rw [HN.out, HN2.out]; rfl, (hE1.trans hE2).trans hE3⟩
  · have hn : tabErr f N = 0 := by unfold tabErr; rw [if_neg (by simp [h1]), if_neg (by simp [h2]), if_neg (by rw [Int.toNat_natCast, h7]; simp; omega)]
    have hn2 : tabOf f N = setTo (fun v => pv v.testBit (rt f)) (2 ^ N) := by rw [tab_eq hn]; simp
    obtain ⟨c1, c2, c3⟩ := compact_wfT h1
    have hops := prop_ops h2
    have hcl := (fCompact_ok f).2
    have hN6 : N ≤ 6 := by omega
    have hN63 : N < 63 := by omega
    have hp := pow6 hN6
    have HN := Lib.hid hn
    have HN2 := Lib.hid hn2
    have H7 := Lib.hid h7
    have HW := Lib.hid c1
    have HRT := Lib.hid c2
    have HL1 := Lib.hid c3
    have HOP : Hid (∀ k, k < (fCompact f).length → (nth (fCompact f) k).op ≤ 8) := Lib.hid fun k hk => (hops _ (nth_mem hk)).2
    clear hn hn2 h1 h2 h3 hf h6 h7 c1 c2 c3 hops
    have HCO : Hid (∀ w, RN w fa f → Calls Tryz.prog 46 #[.slice fa f.length fc] w fun e w' => RetN (fCompact f) e w w') := Lib.hid fun w h => compactF_any fa fc f w h
    generalize fCompact f = c at *
    go_enter Tryz.func28, Tryz.ntmps28
    go_wp2_with (first | (go_at_call 43; refine (HC.out).mono ?_; rintro e w1 ⟨rfl, hE1⟩; rw [H1.out]) | (go_at_call 44; refine (frags_any _ _ _ _ (HF.out.ext hE1)).mono ?_; rintro e w2 ⟨rfl, hE2⟩) | (go_at_call 45; refine (fits_any fa fc f 0 N _ (HF.out.ext (hE1.trans hE2))).mono ?_; rintro e w3 ⟨rfl, hE3⟩; rw [H7.out]) | (go_at_call 46; refine (HCO.out _ (HF.out.ext ((hE1.trans hE2).trans hE3))).mono ?_; rintro e w4 ⟨ca, cc, rfl, hrc, hE4⟩))
    have hEE : Ext w (w4.alloc (.cells #[.slice ca c.length cc] 26)) := (((hE1.trans hE2).trans hE3).trans hE4).alloc _
    have hc0 : (w4.alloc (.cells #[.slice ca c.length cc] 26)).cell? ⟨w4.heap.size, 0, none⟩ = some (.slice ca c.length cc) := by simp
    have hrc2 := hrc.ext ((Ext.refl w4).alloc (.cells #[.slice ca c.length cc] 26))
    have HEE := Lib.hid hEE
    have HRC := Lib.hid hrc2
    clear hEE hrc hrc2 hE1 hE2 hE3 hE4
    generalize w4.heap.size = cb at *
    generalize w4.alloc (.cells #[.slice ca c.length cc] 26) = w5 at *
    go_loopw [8, 34] (fun s i wr => ∃ k : Nat, k ≤ 2 ^ N ∧ i = .int .i64 (k : Int) ∧ s = .int .u64 (un (setTo (fun v => pv v.testBit (rt f)) k)) ∧ Ext w5 wr) (fun _ i _ => 2 ^ N - (intOf i).toNat)
    case atStart => exact ⟨0, Nat.zero_le _, rfl, rfl, Ext.refl _⟩
    case round =>
      obtain ⟨k, hk, rfl, rfl, hE⟩ := hrel
      have hk64 : k ≤ 64 := by omega
      by_cases hlt : k < 2 ^ N
      · have hd1 : decide ((k : Int) < p2 N) = true := decide_eq_true (by unfold p2; omega)
        have hE2 := hE.alloc (.cells #[.int .i64 (k : Int)] 3)
        have z1 : (wr.alloc (.cells #[.int .i64 (k : Int)] 3)).cell? ⟨wr.heap.size, 0, none⟩ = some (.int .i64 (k : Int)) := by simp
        have z2 := hE2.cell hc0
        have HE2 := Lib.hid hE2
        have HST : Hid (setTo (fun v => pv v.testBit (rt f)) (k + 1) = if pv k.testBit (rt f) then setTo (fun v => pv v.testBit (rt f)) k ||| 1#64 <<< k else setTo (fun v => pv v.testBit (rt f)) k) := Lib.hid rfl
        have HV : Hid (Calls Tryz.prog 47 #[.slice ca c.length cc, .func (.func 48) #[] #[.pointer (some ⟨wr.heap.size, 0, none⟩), .pointer (some ⟨cb, 0, none⟩)]] (wr.alloc (.cells #[.int .i64 (k : Int)] 3)) fun en w' => en = .returned (.bool (pv k.testBit (rt c))) ∧ Ext (wr.alloc (.cells #[.int .i64 (k : Int)] 3)) w') :=
          Lib.hid (bvalue_any 48 _ _ ca cc c _ (HRC.out.ext hE2) HW.out HL1.out hcl k.testBit HOP.out cf_table1 fun W j hW hj =>
            table1_any k j wr.heap.size cb ca cc c W (by omega) (hW.cell z1) (hW.cell z2) ((HRC.out.ext hE2).ext hW) hj (nd_i HW.out hj))
        rw [HRT.out] at HV
        cases hb : pv k.testBit (rt f)
        · have hs : setTo (fun v => pv v.testBit (rt f)) (k + 1) = setTo (fun v => pv v.testBit (rt f)) k := by rw [HST.out, hb]; simp
          have HS := Lib.hid hs
          rw [hb] at HV
          clear hs HST hb
          go_wp2_with (go_at_call 47; refine HV.out.mono ?_; rintro _ w6 ⟨rfl, hE6⟩)
          go_roundw
          case rel => exact ⟨k + 1, hlt, by go_num, by rw [HS.out], HE2.out.trans hE6⟩
          case measure => simp [intOf]; omega
        · have hs : setTo (fun v => pv v.testBit (rt f)) (k + 1) = setTo (fun v => pv v.testBit (rt f)) k ||| 1#64 <<< k := by rw [HST.out, hb]; simp
          have HS := Lib.hid hs
          rw [hb] at HV
          clear hs HST hb
          go_wp2_with (go_at_call 47; refine HV.out.mono ?_; rintro _ w6 ⟨rfl, hE6⟩; have z3 := hE6.cell z1; have z4 := hE6.size)
          go_roundw
          case rel => exact ⟨k + 1, hlt, by go_num, by rw [HS.out], HE2.out.trans hE6⟩
          case measure => simp [intOf]; omega
      · have hd1 : decide ((k : Int) < p2 N) = false := decide_eq_false (by unfold p2; omega)
        have hkk : 2 ^ N = k := by omega
        rw [hkk] at HN2
        clear hkk hp
        go_wp2
        go_ret2
        exact ⟨by rw [HN.out, HN2.out]; rfl, HEE.out.trans hE⟩
end Wt

/- Walks: wittingref09.Propositional, value. -/
namespace Wt
open Go Go.RowKit Go.Maps Go.Proofs Fm

theorem RB_of_own {w : World} {B : Nat} {v : Value} {l : List Bool} (h : w.ownsRow B 4 1 v l.length (l.map Value.bool)) (hl : l.length ≤ 140737488355328) : ∃ a c, v = .slice a l.length c ∧ RB w a l := by
  rcases h.2 with ⟨rfl, h0⟩ | ⟨g, cap, cur, rfl, rest⟩
  · have : l = [] := List.eq_nil_of_length_eq_zero h0
    subst this
    exact ⟨none, 0, rfl, RB.nil _ _⟩
  · exact ⟨some ⟨g, 0, none⟩, cap, rfl, RB_of_OG (base := B) (T := 4) (c := cap) ⟨rfl, h⟩ hl⟩
end Wt
