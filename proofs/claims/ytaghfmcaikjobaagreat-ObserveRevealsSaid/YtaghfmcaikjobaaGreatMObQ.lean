/- Plain laws of observations: what Build, Pool, Reveal, Informed and Product compute. -/
import Derived.Test.YtaghfmcaikjobaaGreatMObP
import Derived.Test.YtaghfmcaikjobaaGreatMUpd
import Derived.Test.YtaghfmcaikjobaaGreatMArr
import Derived.Maps.OwnOps
import Derived.Maps.Views
import Derived.Maps.OwnSet
import Derived.Test.YtaghfmcaikjobaaGreatMTz
import Derived.Test.YtaghfmcaikjobaaGreatMRfC
import Derived.Test.YtaghfmcaikjobaaGreatMRef
namespace Wt
open Go Go.RowKit Go.Proofs Fm

/-- Are the tables alike at two valuations? -/
def alikeT (ts : List (BitVec 64)) (v w : Nat) : Bool := ts.all fun t => bt t v == bt t w
/-- The values of the first n tables at a valuation, as a number. -/
def keyT (ts : List (BitVec 64)) (v : Nat) : Nat → Nat
  | 0 => 0
  | i + 1 => keyT ts v i ||| (if bt (nth ts i) v then 2 ^ i else 0)
theorem keyT_lt (ts : List (BitVec 64)) (v : Nat) : ∀ n, keyT ts v n < 2 ^ n
  | 0 => by simp [keyT]
  | n + 1 => by
    have ih := keyT_lt ts v n
    have h2 : 2 ^ (n + 1) = 2 ^ n + 2 ^ n := by rw [Nat.pow_succ]; omega
    have h3 : 0 < 2 ^ n := Nat.pow_pos (by decide)
    unfold keyT
    refine Nat.or_lt_two_pow (by omega) ?_
    split <;> omega
theorem keyT_bit (ts : List (BitVec 64)) (v : Nat) {j : Nat} : ∀ n, (keyT ts v n).testBit j = (decide (j < n) && bt (nth ts j) v)
  | 0 => by simp [keyT]
  | n + 1 => by
    unfold keyT
    rw [Nat.testBit_or, keyT_bit ts v n]
    by_cases hj : j = n
    · subst hj
      have e : decide (j < j) = false := by simp
      rw [e, Bool.false_and, Bool.false_or]
      split
      · next h => rw [Nat.testBit_two_pow_self, h]; simp
      · next h => simp [h]
    · have e : decide (j < n + 1) = decide (j < n) := by congr 1; exact propext ⟨fun _ => by omega, fun _ => by omega⟩
      rw [e]
      split
      · rw [Nat.testBit_two_pow_of_ne (by omega)]; simp
      · simp
theorem keyT_alike (ts : List (BitVec 64)) (v w : Nat) : keyT ts v ts.length = keyT ts w ts.length ↔ alikeT ts v w = true := by
  constructor
  · intro h
    unfold alikeT
    rw [List.all_eq_true]
    intro t ht
    obtain ⟨k, hk, rfl⟩ := mem_nth ht
    have h1 := keyT_bit ts v (j := k) ts.length
    rw [h, keyT_bit ts w ts.length] at h1
    simp [hk] at h1
    simp [h1]
  · intro h
    refine Nat.eq_of_testBit_eq fun j => ?_
    rw [keyT_bit, keyT_bit]
    by_cases hj : j < ts.length
    · have := List.all_eq_true.1 h _ (nth_mem hj)
      have := eq_of_beq this
      rw [this]
    · simp [hj]
/-- The relation of who observes the formulas with these tables. -/
def cellR (states : List Nat) (ts : List (BitVec 64)) : List (BitVec 64) := states.map fun v => setTo (fun w => alikeT ts v (nth states w)) states.length
/-- The facts of the states. -/
def valR (n : Nat) (states : List Nat) : List (BitVec 64) := (List.range n).map fun i => setTo (fun w => (nth states w).testBit i) states.length
/-- The first error of a list of tables. -/
def tabsErr (n : Int) : List (List Nd) → Int
  | [] => 0
  | f :: r => if tabErr f n ≠ 0 then tabErr f n else tabsErr n r
def seenErr (n : Int) : List (List (List Nd)) → Int
  | [] => 0
  | l :: r => if tabsErr n l ≠ 0 then tabsErr n l else seenErr n r
/-- What is wrong with a law and observations. -/
def obErr (n : Int) (law : List Nd) (seen : List (List (List Nd))) : Int :=
  if 4 < seen.length ∨ ∃ l ∈ seen, 16 < l.length then 8
  else if tabErr law n ≠ 0 then tabErr law n
  else if seenErr n seen ≠ 0 then seenErr n seen
  else if tabOf law n = 0#64 then 11 else 0
def obS (n : Int) (law : List Nd) (seen : List (List (List Nd))) : List Nat := if obErr n law seen = 0 then memL (tabOf law n) else []
def obM (n : Int) (law : List Nd) (seen : List (List (List Nd))) : Mo :=
  if obErr n law seen = 0 then ⟨(memL (tabOf law n)).length, valR n.toNat (memL (tabOf law n)), seen.map fun l => cellR (memL (tabOf law n)) (l.map fun f => tabOf f n)⟩ else ⟨0, [], []⟩
/-- What a group pools. -/
def poolErr (seen : List (List (List Nd))) (g : Int) : Int := if 4 < seen.length ∨ g < 1 ∨ p2 seen.length ≤ g then 2 else 0
def poolTo (seen : List (List (List Nd))) (g : Nat) : Nat → List (List Nd)
  | 0 => []
  | k + 1 => poolTo seen g k ++ if g.testBit k then nth seen k else []
def poolOf (seen : List (List (List Nd))) (g : Int) : List (List Nd) := if poolErr seen g = 0 then poolTo seen g.toNat seen.length else []
/-- What a group learns. -/
def revErr (M : Mo) (g : Int) (f : List Nd) : Int := if reqErr M f ≠ 0 then reqErr M f else if g < 1 ∨ p2 M.rel.length ≤ g then 1 else 0
def revR (M : Mo) (g : Nat) (s : BitVec 64) (a : Nat) : List (BitVec 64) := if g.testBit a then whRow s (nth M.rel a) else nth M.rel a
def revM (M : Mo) (g : Int) (f : List Nd) : Mo := if revErr M g f = 0 then ⟨M.worlds, M.val, (List.range M.rel.length).map (revR M g.toNat (holdsOf M f))⟩ else ⟨0, [], []⟩
/-- Does an agent know what another one knows? -/
def infErr (M : Mo) (a b : Int) : Int := if moCheck M ≠ 0 then moCheck M else if a < 0 ∨ (M.rel.length : Int) ≤ a ∨ b < 0 ∨ (M.rel.length : Int) ≤ b then 1 else 0
def infTo (r q : List (BitVec 64)) : Nat → Bool
  | 0 => true
  | k + 1 => infTo r q k && (nth r k &&& ~~~ nth q k == 0#64)
def infOf (M : Mo) (a b : Int) : Bool := infErr M a b == 0 && infTo (nth M.rel a.toNat) (nth M.rel b.toNat) (nth M.rel a.toNat).length
/-- Two models side by side. -/
def pairL (n m : Nat) : List (Nat × Nat) := (List.range (n * m)).map fun i => (i / m, i % m)
def bothS (l : List (Nat × Nat)) (s t : BitVec 64) : BitVec 64 := setTo (fun i => bt s (nth l i).1 && bt t (nth l i).2) l.length
def prErr (A B : Mo) : Int :=
  if moCheck A ≠ 0 then moCheck A else if moCheck B ≠ 0 then moCheck B else if A.rel.length ≠ B.rel.length then 1
  else if 64 < A.worlds * B.worlds ∨ 8 < A.val.length + B.val.length then 8 else 0
def prL (A B : Mo) : List (Nat × Nat) := if prErr A B = 0 then pairL A.worlds.toNat B.worlds.toNat else []
def prR (l : List (Nat × Nat)) (r q : List (BitVec 64)) : List (BitVec 64) := l.map fun p => bothS l (nth r p.1) (nth q p.2)
def prM (A B : Mo) : Mo :=
  if prErr A B = 0 then
    ⟨((prL A B).length : Int), A.val.map (fun s => bothS (prL A B) s (allW B.worlds.toNat)) ++ B.val.map (fun t => bothS (prL A B) (allW A.worlds.toNat) t),
      (List.range A.rel.length).map fun i => prR (prL A B) (nth A.rel i) (nth B.rel i)⟩
  else ⟨0, [], []⟩
end Wt

/- Walk: observe.cells. -/
namespace Wt
open Go Go.RowKit Go.Maps Go.Proofs Fm

theorem keyT_step (ts : List (BitVec 64)) (v i : Nat) : keyT ts v (i + 1) = keyT ts v i ||| (if bt (nth ts i) v then 2 ^ i else 0) := rfl
theorem or_zero64 (a : Nat) (ha : a < 4294967296) : bits .or .i64 (a : Int) 0 = (a : Int) := by
  have := or_nat a 0 ha (by omega)
  simpa using this
theorem shl_zero64 (yk : IntKind) (n : Nat) : Op.shift .shl .i64 0 yk (n : Int) = pure (.int .i64 0) := by
  have h : ¬ ((n : Int) < 0) := by omega
  have hb : IntKind.i64.bits = 64 := rfl
  simp only [Op.shift, h, if_false, Int.toNat_natCast, hb, Int.zero_mul]
  rfl
theorem bit_val (t : BitVec 64) (v : Nat) : un (t >>> v &&& 1#64) = if bt t v then 1 else 0 := by
  have h1 := bit_eq1 (s := t) v
  have h0 := bit_eq0 (s := t) v
  cases hb : bt t v
  · rw [hb] at h0
    have : t >>> v &&& 1#64 = 0#64 := by simpa using h0
    rw [this]; rfl
  · rw [hb] at h1
    have : t >>> v &&& 1#64 = 1#64 := by simpa using h1
    rw [this]; rfl
theorem cf_cells1 (args : Array Value) (W : World) : (callFunc 49 args).run Tryz.prog W = .ok (.enter 49 args) W := by
  simp [callFunc, Tryz.func49, Tryz.f49]
set_option maxHeartbeats 1000000 in
theorem cells1_any (v b : Nat) (ta : Option Addr) (tc : Nat) (ts : List (BitVec 64)) (w : World) (h1 : w.cell? ⟨b, 0, none⟩ = some (.slice ta ts.length tc)) (hr : RU w ta ts) (h16 : ts.length ≤ 16) :
    Calls Tryz.prog 49 #[.int .i64 (v : Int), .pointer (some ⟨b, 0, none⟩)] w fun e w' => e = .returned (.int .i64 (keyT ts v ts.length : Nat)) ∧ w = w' := by
  have hl := World.block_lt_of_cell? _ _ h1
  have HR := Lib.hid hr
  have hz := fun (n : Nat) => shl_zero64 .i64 n
  clear hr
  go_enter Tryz.func49, Tryz.ntmps49
  go_wp2
  go_loopw [4, 9] (fun s i wr => ∃ k : Nat, k ≤ ts.length ∧ i = .int .i64 (k : Int) ∧ s = .int .i64 (keyT ts v k : Nat) ∧ w = wr) (fun _ i _ => ts.length - (intOf i).toNat)
  case atStart => exact ⟨0, Nat.zero_le _, rfl, rfl, rfl⟩
  case round =>
    obtain ⟨k, hk, rfl, rfl, rfl⟩ := hrel
    by_cases hlt : k < ts.length
    · obtain ⟨b2, off, rfl, hb, hc⟩ := HR.out.get hlt
      have hkl := keyT_lt ts v k
      have h2k : 2 ^ k ≤ 2 ^ 15 := Nat.pow_le_pow_right (by decide) (by omega)
      have hbv := bit_val (nth ts k) v
      have hst := keyT_step ts v k
      cases hb : bt (nth ts k) v
      · rw [hb] at hbv hst
        have ho := or_zero64 (keyT ts v k) (by omega)
        have hst2 : keyT ts v (k + 1) = keyT ts v k := by rw [hst]; simp
        have HST := Lib.hid hst2
        have hbv0 : un (nth ts k >>> v &&& 1#64) = 0 := hbv
        clear hbv hst hst2 hb hkl h2k
        go_wp2
        go_roundw
        case rel => exact ⟨k + 1, hlt, by go_num, by rw [HST.out], trivial⟩
        case measure => simp [intOf]; omega
      · rw [hb] at hbv hst
        have ho : bits .or .i64 (keyT ts v k : Nat) (p2 k) = (keyT ts v (k + 1) : Nat) := by
          rw [hst]; exact or_nat _ _ (by omega) (by omega)
        have hbv0 : un (nth ts k >>> v &&& 1#64) = 1 := hbv
        have hk63 : k < 63 := by omega
        clear hbv hst hb hkl h2k
        go_wp2
        go_roundw
        case rel => exact ⟨k + 1, hlt, by go_num, rfl, trivial⟩
        case measure => simp [intOf]; omega
    · obtain rfl : k = ts.length := by omega
      go_wp2
      go_ret
      exact ⟨rfl, rfl⟩
theorem wf_un (s : BitVec 64) : (Lit.int .u64 (un s)).wf = true := by
  simp only [Lit.wf, Bool.and_eq_true, decide_eq_true_eq]
  exact ⟨un_nonneg s, un_le s⟩
theorem u64_zero (w : World) : (zeroValue 44).run Tryz.prog w = .ok (.int .u64 0) w := by kernel_rfl
/-- A map from numbers to sets, which the call owns. -/
def MapU (w : World) (b n : Nat) (F : Nat → BitVec 64) : Prop :=
  ∃ D : DataW Unit, w.ownsMap Tryz.prog 3 (plainElem Tryz.prog 44) b n D ∧ ∀ k : Nat, k < 65536 → D.atKey (.int .i64 (k : Int)) (.lit (.int .u64 0)) = .lit (.int .u64 (un (F k)))
theorem key_nat {k : Nat} (h : k < 65536) : keyOf Tryz.prog 3 (.int .i64 (k : Int)) = some (.int .i64 (k : Int)) := keyOf_int_mk Tryz.underlying3 (igood_of (by omega))
theorem MapU.made (w : World) : MapU (w.alloc (.map #[] 0)) w.heap.size 0 (fun _ => 0#64) :=
  ⟨.map [], World.ownsMap_made w _ _ _, fun _k _ => rfl⟩
theorem MapU.kept {w w' : World} {b n : Nat} {F : Nat → BitVec 64} {row : Option Nat} (h : MapU w b n F) (hg : w.grownBy w' row) (hne : some b ≠ row) : MapU w' b n F := by
  obtain ⟨D, h1, h2⟩ := h
  exact ⟨D, h1.kept hg hne, h2⟩
theorem MapU.ext {w w' : World} {b n : Nat} {F : Nat → BitVec 64} (h : MapU w b n F) (e : Ext w w') : MapU w' b n F :=
  h.kept (row := none) ⟨e.os, e.tape, e.output, e.size, fun k hk _ => e.block k hk⟩ (by simp)
theorem MapU.lt {w : World} {b n : Nat} {F : Nat → BitVec 64} (h : MapU w b n F) : b < w.heap.size := by
  obtain ⟨D, h1, _⟩ := h
  exact h1.lt
theorem MapU.look {w : World} {b n : Nat} {F : Nat → BitVec 64} (h : MapU w b n F) {k : Nat} (hk : k < 65536) :
    (Instr.lookup 85 (.map (some b)) (.int .i64 (k : Int)) false).run Tryz.prog w = .ok (.int .u64 (un (F k))) w := by
  obtain ⟨D, h1, h2⟩ := h
  obtain ⟨c, hrun, hat, _⟩ := h1.lookup_int int_keyed' Tryz.underlying85 Tryz.underlying44 (u64_zero w) (key_nat hk)
  rw [h2 k hk] at hat
  simp only [DataW.lit.injEq, Lit.int.injEq, true_and] at hat
  rw [hrun, ← hat]
theorem MapU.ins {w : World} {b n : Nat} {F : Nat → BitVec 64} (h : MapU w b n F) (hn : n < 1000) {k : Nat} (hk : k < 65536) (s : BitVec 64) :
    ∃ w', (Instr.mapUpdate 85 (.map (some b)) (.int .i64 (k : Int)) (.int .u64 (un s))).run Tryz.prog w = .ok () w' ∧ MapU w' b (n + 1) (fun x => if x = k then s else F x) ∧ w.grownBy w' (some b) := by
  obtain ⟨D, h1, h2⟩ := h
  obtain ⟨w', hrun, ho, hg⟩ := h1.update int_keyed' Tryz.underlying85 (by unfold maxLen; omega) (key_nat hk) (plainElem_int Tryz.underlying44 (wf_un s))
  refine ⟨w', hrun, ⟨_, ho, fun x hx => ?_⟩, hg⟩
  by_cases e : x = k
  · subst e
    show (D.put _ _).atKey _ _ = .lit (.int .u64 (un (if x = x then s else F x)))
    rw [if_pos rfl]
    exact atKey_put_same h1.isMap (by simp [WideAt.IsKeyLit]) _ _
  · show (D.put _ _).atKey _ _ = .lit (.int .u64 (un (if x = k then s else F x)))
    rw [atKey_put_other (by simp; omega), if_neg e]
    exact h2 x hx
theorem wpList_look1_on {P : Program} (w : World) {ops : Array Oper} {rest : List Oper} {o : Oper} {a : Act} {Q : Exit → Act → World → Prop}
    (hg : o.guard = none) (m x : Operand) (t : TypeId) (hop : o.op = Op.lookup t m x false) (b : Nat) (hm : a.eval m = .map (some b)) (key : Value) (hx : a.eval x = key) (v : Value)
    (hrun : (Instr.lookup t (.map (some b)) key false).run P w = .ok v w) (hK : wpList P ops Q rest (a.put o.dst v) w) : wpList P ops Q (o :: rest) a w := by
  refine wpList_plain hg fun K' hK' => ?_
  unfold Oper.wp
  simp [execOp, hop, hm, hx, hrun, Result.andThen]
  exact hK' _ _ hK
/-- The states so far with a key. -/
def keyS (ts : List (BitVec 64)) (st : List Nat) (k x : Nat) : BitVec 64 := setTo (fun w => keyT ts (nth st w) ts.length == x) k
theorem keyS_step (ts : List (BitVec 64)) (st : List Nat) (k : Nat) : keyS ts st (k + 1) = fun x => if x = keyT ts (nth st k) ts.length then keyS ts st k (keyT ts (nth st k) ts.length) ||| 1#64 <<< k else keyS ts st k x := by
  funext x
  unfold keyS
  show (if (keyT ts (nth st k) ts.length == x) = true then setTo _ k ||| 1#64 <<< k else setTo _ k) = _
  by_cases e : x = keyT ts (nth st k) ts.length
  · subst e; simp
  · rw [if_neg e, if_neg (by simp; exact fun h => e h.symm)]
theorem keyS_cell (ts : List (BitVec 64)) (st : List Nat) {j : Nat} (hj : j < st.length) : keyS ts st st.length (keyT ts (nth st j) ts.length) = nth (cellR st ts) j := by
  unfold cellR
  rw [nth_mapN _ _ hj]
  unfold keyS
  refine setTo_congr fun k _ => ?_
  rw [Bool.eq_iff_iff, beq_iff_eq]
  exact ⟨fun h => (keyT_alike ts _ _).1 h.symm, fun h => ((keyT_alike ts _ _).2 h).symm⟩
theorem keyT_lt16 (ts : List (BitVec 64)) (v : Nat) (h : ts.length ≤ 16) : keyT ts v ts.length < 65536 :=
  Nat.lt_of_lt_of_le (keyT_lt ts v _) (Nat.pow_le_pow_right (by decide : 0 < 2) h)
set_option maxRecDepth 20000 in
set_option maxHeartbeats 4000000 in
theorem cells_any (st : List Nat) (sa : Option Addr) (sc : Nat) (ts : List (BitVec 64)) (ta : Option Addr) (tc : Nat) (w : World) (hs : RI w sa (natI st)) (ht : RU w ta ts) (h16 : ts.length ≤ 16) (h64 : st.length ≤ 64) :
    Calls Tryz.prog 29 #[.slice sa st.length sc, .slice ta ts.length tc] w fun e w' => (∃ v, e = .returned v ∧ OU w' w.heap.size v (cellR st ts)) ∧ Ext w w' := by
  obtain ⟨i0, hi1, hz0, hz1, hz2⟩ := info_parts u64_info
  have hmm := @run_makeMap Tryz.prog
  have hE0 := (Ext.refl w).alloc (.cells #[.slice ta ts.length tc] 22)
  have hc0 : (w.alloc (.cells #[.slice ta ts.length tc] 22)).cell? ⟨w.heap.size, 0, none⟩ = some (.slice ta ts.length tc) := by simp
  have HS := Lib.hid hs
  have HT := Lib.hid ht
  have H16 := Lib.hid h16
  have HKEY : Hid (∀ (W : World) (v : Nat), Ext (w.alloc (.cells #[.slice ta ts.length tc] 22)) W → Calls Tryz.prog 49 #[.int .i64 (v : Int), .pointer (some ⟨w.heap.size, 0, none⟩)] W fun e w' => e = .returned (.int .i64 (keyT ts v ts.length : Nat)) ∧ W = w') :=
    Lib.hid fun W v hW => cells1_any v w.heap.size ta tc ts W (hW.cell hc0) ((ht.ext hE0).ext hW) h16
  have hF : ∀ args W, (callFunc 49 args).run Tryz.prog W = .ok (.enter 49 args) W := cf_cells1
  clear hs ht hE0 hc0 h16
  go_enter Tryz.func29, Tryz.ntmps29
  go_wp2
  have hM0 : MapU ((w.alloc (.cells #[.slice ta ts.length tc] 22)).alloc (.map #[] 0)) (w.heap.size + 1) 0 (keyS ts st 0) := by
    have := MapU.made (w.alloc (.cells #[.slice ta ts.length tc] 22))
    rw [show (w.alloc (.cells #[.slice ta ts.length tc] 22)).heap.size = w.heap.size + 1 by simp] at this
    exact this
  have HM0 := Lib.hid hM0
  have hE1 : Ext (w.alloc (.cells #[.slice ta ts.length tc] 22)) ((w.alloc (.cells #[.slice ta ts.length tc] 22)).alloc (.map #[] 0)) := (Ext.refl _).alloc _
  have HE1 := Lib.hid hE1
  have hEw : Ext w (w.alloc (.cells #[.slice ta ts.length tc] 22)) := (Ext.refl _).alloc _
  have HEW := Lib.hid hEw
  have hsz : (w.alloc (.cells #[.slice ta ts.length tc] 22)).heap.size = w.heap.size + 1 := by simp
  have HSZ := Lib.hid hsz
  clear hM0 hE1 hEw hsz
  generalize (w.alloc (.cells #[.slice ta ts.length tc] 22)).alloc (.map #[] 0) = W1 at *
  generalize w.alloc (.cells #[.slice ta ts.length tc] 22) = WA at *
  go_loopw [16] (fun i wr => ∃ k : Nat, k ≤ st.length ∧ i = .int .i64 (k : Int) ∧ Ext WA wr ∧ MapU wr (w.heap.size + 1) k (keyS ts st k)) (fun i _ => st.length - (intOf i).toNat)
  case atStart => exact ⟨0, Nat.zero_le _, rfl, HE1.out, HM0.out⟩
  case round =>
    obtain ⟨k, hk, rfl, hE, hM⟩ := hrel
    have HE := Lib.hid hE
    have HM := Lib.hid hM
    by_cases hlt : k < st.length
    · obtain ⟨b2, off, rfl, hb2, hc2⟩ := (HS.out.ext (HEW.out.trans hE)).get (k := k) (by rw [natI_len]; exact hlt)
      rw [nth_natI hlt] at hc2
      have HKL := Lib.hid (keyT_lt16 ts (nth st k) H16.out)
      have HST := Lib.hid (keyS_step ts st k)
      have hbl := hM.lt
      clear hE hM
      go_wp2_with fail
      have hlk : (Instr.lookup 85 (.map (some (w.heap.size + 1))) (.int .i64 (keyT ts (nth st k) ts.length : Nat)) false).run Tryz.prog wr.drew = .ok (.int .u64 (un (keyS ts st k (keyT ts (nth st k) ts.length)))) wr.drew := (HM.out.ext (Ext.refl wr).drew).look HKL.out
      refine wp_region_still_tail 8 (by kernel_rfl) (by kernel_rfl) ?_
      simp only [List.take_succ_cons, List.take_zero, List.drop_succ_cons, List.drop_zero]
      change wpStill _ _ (World.drew _) _ _ _
      repeat still_step
      still_call ((HKEY.out _ _ HE.out.drew).mono fun _ _ h => ⟨h.1, h.2.symm⟩)
      repeat still_step
      refine wpStill_nil ?_
      change wpList _ _ _ _ _ (World.drew _)
      go_wp2_with (at_mapUpdate; refine wpList_upd_on _ rfl _ _ _ 85 rfl _ rfl _ rfl _ rfl _ ((HM.out.ext (Ext.refl wr).drew).ins (by omega) HKL.out _) ?_; intro W2 hW2)
      go_roundw
      case rel =>
        refine ⟨k + 1, hlt, by go_num, Below.grown HE.out.drew hW2.2 HE.out.size (fun q hq => ?_), ?_⟩
        · simp at hq; have := HSZ.out; omega
        · rw [HST.out]; exact hW2.1
      case measure => simp [intOf]; omega
    · obtain rfl : k = st.length := by omega
      clear hE hM
      have hEr : Ext w wr := HEW.out.trans HE.out
      have HER := Lib.hid hEr
      clear hEr
      go_wp2_with fail
      go_loopw [9, 32] (fun v i wz => ∃ k : Nat, k ≤ st.length ∧ i = .int .i64 (k : Int) ∧ GLE wr (cellR st ts) k v wz) (fun _ i _ => st.length - (intOf i).toNat)
      case atStart => exact ⟨0, Nat.zero_le _, rfl, Ext.refl _, World.ownsRow_nil _ _ _ _⟩
      case round =>
        rename World => wz
        obtain ⟨k, hk, rfl, hGL⟩ := hrel
        have hGL : GL wr 44 uv ((cellR st ts).take k) u9 wz := hGL
        have HGL := Lib.hid hGL
        have hcl : (cellR st ts).length = st.length := by simp [cellR]
        by_cases hlt : k < st.length
        · have hE2 := HER.out.trans hGL.e
          obtain ⟨b2, off, rfl, hb2, hc2⟩ := (HS.out.ext hE2).get (k := k) (by rw [natI_len]; exact hlt)
          rw [nth_natI hlt] at hc2
          have HKL := Lib.hid (keyT_lt16 ts (nth st k) H16.out)
          have HEA := Lib.hid (HE.out.trans hGL.e)
          have hlk : (Instr.lookup 85 (.map (some (w.heap.size + 1))) (.int .i64 (keyT ts (nth st k) ts.length : Nat)) false).run Tryz.prog wz = .ok (.int .u64 (un (nth (cellR st ts) k))) wz := by
            have := (HM.out.ext hGL.e).look HKL.out
            rw [keyS_cell ts st hlt] at this
            exact this
          have HLK := Lib.hid hlk
          clear hlk
          have hone : (cellR st ts).take (k + 1) = (cellR st ts).take k ++ [nth (cellR st ts) k] := by
            rw [nth_eq _ _ (by rw [hcl]; exact hlt), List.take_add_one, List.getElem?_eq_getElem (by rw [hcl]; exact hlt)]; rfl
          have HONE1 := Lib.hid hone
          have htk : ((cellR st ts).take k).length = k := by rw [List.length_take]; omega
          have hszz : wr.heap.size ≤ wz.heap.size := hGL.e.size
          have HPA : Hid (∀ o, GL wr 44 uv ((cellR st ts).take k) u9 (wz.alloc o)) := Lib.hid fun o => HGL.out.ext' ((Ext.refl wz).alloc o)
          have HONE : Hid (∀ u ∈ [Value.int .u64 (un (nth (cellR st ts) k))], u.oneCell' = true) := Lib.hid fun u hu => by rw [List.mem_singleton.1 hu]; rfl
          clear hGL hE2 hone
          generalize hxk : nth (cellR st ts) k = xk at HLK HONE HONE1
          clear hxk
          go_wp2_with fail
          refine (HKEY.out _ _ HEA.out).mono ?_
          rintro _ _ ⟨rfl, rfl⟩
          go_wp2_with (first | (at_lookup; refine wpList_look1_on _ rfl _ _ 85 rfl _ rfl _ rfl _ HLK.out ?_) | (at_builtin; refine wpList_append_lies _ rfl _ _ 22 rfl wr.heap.size 44 i0 _ 1 8 Tryz.underlying22 hi1 hz0 hz1 hz2 rfl (by decide) u9 ((cellR st ts).take k).length _ rfl (HPA.out _).own ⟨wz.heap.size, 0, none⟩ 1 1 [.int .u64 (un xk)] rfl rfl (cell_one_new _ _ _) HONE.out (by decide) (by unfold maxLen; omega) (by omega) (Nat.le_trans hszz (by simp)) (wz.heap.size + 1) (by simp) ?_; intro gx cap W1 hown hgrow hat hlt2; have hpush := (HPA.out _).push (x := xk) hown hgrow; have HPU := Lib.hid hpush; clear hpush hown hgrow hat))
          go_roundw
          case rel => exact ⟨k + 1, hlt, by go_num, by show GL _ _ _ ((cellR st ts).take (k + 1)) _ _; rw [HONE1.out]; rw [htk] at HPU; exact HPU.out⟩
          case measure => simp [intOf]; omega
        · obtain rfl : k = st.length := by omega
          have hfull : (cellR st ts).take st.length = cellR st ts := List.take_of_length_le (by omega)
          rw [hfull] at hGL
          have HG := Lib.hid hGL
          clear hGL
          go_wp2
          go_ret
          exact ⟨⟨u9, rfl, OU.mono HG.out.own HER.out.size⟩, HER.out.trans HG.out.e⟩
end Wt

/- Plain laws: distribution, truth and both introspections, as trees and as sets. -/
namespace Wt
open Go Go.RowKit Go.Proofs Fm

theorem ru_cell {w : World} {b off : Nat} {l : List (BitVec 64)} (h : RU w (some ⟨b, off, none⟩) l) {k : Nat} (hk : k < l.length) : w.cell? ⟨b, off + k, none⟩ = some (.int .u64 (un (nth l k))) := by
  obtain ⟨b', off', e, _, hc⟩ := h.get hk
  simp only [Option.some.injEq, Addr.mk.injEq] at e
  obtain ⟨rfl, rfl, -⟩ := e
  exact hc
theorem imp_all {N : Nat} {a b : BitVec 64} (hb : Sub b (allW N)) (h : ∀ k, k < 64 → k < N → bt a k = true → bt b k = true) : (allW N &&& ~~~ a) ||| b = allW N := bt_ext fun k hk => by
  rw [bt_or, bt_and, bt_not, bt_allW]
  by_cases hn : k < N
  · cases ha : bt a k
    · simp [hk, hn]
    · rw [h k hk hn ha]; simp [hk, hn]
  · have : bt b k = false := by
      cases hc : bt b k
      · rfl
      · have := hb k hk hc
        rw [bt_allW] at this; simp [hn] at this
    simp [hn, this]
section
variable {M : Mo} {N : Nat} (ok : MoOk M N) {q : Nat} (hq : q < M.rel.length)
include ok hq
theorem box_sub {Z : BitVec 64} {k : Nat} (hk : k < 64) (hn : k < N) : bt (relBox (nth M.rel q) Z) k = true ↔ Sub (nth (nth M.rel q) k) Z := by
  rw [bt_agent ok hq Z hk, Bool.and_eq_true, sub_bool]
  simp [hn]
theorem agent_in (Z : BitVec 64) : Sub (relBox (nth M.rel q) Z) (allW N) := box_in (by rw [(row_in ok hq).1]; exact Nat.le_refl _)
theorem lawK (x y : BitVec 64) (_hy : Sub y (allW N)) : (allW N &&& ~~~ relBox (nth M.rel q) ((allW N &&& ~~~ x) ||| y)) ||| ((allW N &&& ~~~ relBox (nth M.rel q) x) ||| relBox (nth M.rel q) y) = allW N := by
  refine imp_all (Sub.and1 (Sub.refl _) |>.or (agent_in ok hq y)) fun k hk hn h1 => ?_
  rw [box_sub ok hq hk hn] at h1
  rw [bt_or, bt_and, bt_not, bt_allW]
  cases h2 : bt (relBox (nth M.rel q) x) k
  · simp [hk, hn]
  · rw [box_sub ok hq hk hn] at h2
    have : bt (relBox (nth M.rel q) y) k = true := (box_sub ok hq hk hn).2 fun u hu hb => by
      have h3 := h1 u hu hb
      rw [bt_or, bt_and, bt_not, h2 u hu hb] at h3
      simpa using h3
    rw [this]; simp
/-- What the law asks of an equivalence. -/
def eqI (r : List (BitVec 64)) (w : Nat) : Nat → Bool := allQ fun x => !bt (nth r w) x || (nth r w == nth r x)
def eqO (r : List (BitVec 64)) (N : Nat) : Nat → Bool := allQ fun w => bt (nth r w) w && eqI r w N
omit ok hq in
theorem eqO_iff {r : List (BitVec 64)} (h : eqO r N N = true) : (∀ w, w < N → bt (nth r w) w = true) ∧ ∀ w x, w < N → x < N → bt (nth r w) x = true → nth r w = nth r x := by
  unfold eqO at h
  rw [allQ_iff] at h
  refine ⟨fun w hw => (Bool.and_eq_true _ _ ▸ h w hw).1, fun w x hw hx hb => ?_⟩
  have h2 := (Bool.and_eq_true _ _ ▸ h w hw).2
  unfold eqI at h2
  rw [allQ_iff] at h2
  have := h2 x hx
  rw [hb] at this
  simpa using this
variable (he : eqO (nth M.rel q) N N = true)
include he
theorem lawT (x : BitVec 64) (hx : Sub x (allW N)) : (allW N &&& ~~~ relBox (nth M.rel q) x) ||| x = allW N := by
  obtain ⟨h1, _⟩ := eqO_iff he
  exact imp_all hx fun k hk hn h => (box_sub ok hq hk hn).1 h k hk (h1 k hn)
theorem law4 (x : BitVec 64) : (allW N &&& ~~~ relBox (nth M.rel q) x) ||| relBox (nth M.rel q) (relBox (nth M.rel q) x) = allW N := by
  obtain ⟨_, h2⟩ := eqO_iff he
  refine imp_all (agent_in ok hq _) fun k hk hn h => (box_sub ok hq hk hn).2 fun u hu hb => ?_
  have hun : u < N := by
    have := (row_in ok hq).2 k hn u hu hb
    rw [bt_allW] at this; simp at this; exact this.2
  rw [box_sub ok hq hu hun, ← h2 k u hn hun hb]
  exact (box_sub ok hq hk hn).1 h
theorem law5 (x : BitVec 64) : (allW N &&& ~~~ (allW N &&& ~~~ relBox (nth M.rel q) x)) ||| relBox (nth M.rel q) (allW N &&& ~~~ relBox (nth M.rel q) x) = allW N := by
  obtain ⟨_, h2⟩ := eqO_iff he
  refine imp_all (agent_in ok hq _) fun k hk hn h => (box_sub ok hq hk hn).2 fun u hu hb => ?_
  have hun : u < N := by
    have := (row_in ok hq).2 k hn u hu hb
    rw [bt_allW] at this; simp at this; exact this.2
  rw [bt_and, bt_not, bt_allW] at h ⊢
  have hneg : bt (relBox (nth M.rel q) x) u = false := by
    cases hc : bt (relBox (nth M.rel q) x) u
    · rfl
    · rw [box_sub ok hq hu hun, ← h2 k u hn hun hb] at hc
      have := (box_sub ok hq hk hn).2 hc
      rw [this] at h; simp at h
  rw [hneg]; simp [hu, hun]
end
/-- The formulas of one agent's axioms, and their sets. -/
structure AxF (M : Mo) (N a : Nat) (f h : List Nd) : Prop where
  iK : Hid (IsF (fB ⟨7, 0, 0, 0, 0, 0⟩ [fB ⟨9, (a : Int), 0, 0, 0, 0⟩ [fB ⟨7, 0, 0, 0, 0, 0⟩ [f, h]], fB ⟨7, 0, 0, 0, 0, 0⟩ [fB ⟨9, (a : Int), 0, 0, 0, 0⟩ [f], fB ⟨9, (a : Int), 0, 0, 0, 0⟩ [h]]]) (.bin 7 0 0 0 (.un 9 a 0 0 (.bin 7 0 0 0 (rt f) (rt h))) (.bin 7 0 0 0 (.un 9 a 0 0 (rt f)) (.un 9 a 0 0 (rt h)))))
  sK : Hid (semT M (.bin 7 0 0 0 (.un 9 a 0 0 (.bin 7 0 0 0 (rt f) (rt h))) (.bin 7 0 0 0 (.un 9 a 0 0 (rt f)) (.un 9 a 0 0 (rt h)))) = (allW N, true))
  iT : Hid (IsF (fB ⟨7, 0, 0, 0, 0, 0⟩ [fB ⟨9, (a : Int), 0, 0, 0, 0⟩ [f], f]) (.bin 7 0 0 0 (.un 9 a 0 0 (rt f)) (rt f)))
  i4 : Hid (IsF (fB ⟨7, 0, 0, 0, 0, 0⟩ [fB ⟨9, (a : Int), 0, 0, 0, 0⟩ [f], fB ⟨9, (a : Int), 0, 0, 0, 0⟩ [fB ⟨9, (a : Int), 0, 0, 0, 0⟩ [f]]]) (.bin 7 0 0 0 (.un 9 a 0 0 (rt f)) (.un 9 a 0 0 (.un 9 a 0 0 (rt f)))))
  i5 : Hid (IsF (fB ⟨7, 0, 0, 0, 0, 0⟩ [fB ⟨4, 0, 0, 0, 0, 0⟩ [fB ⟨9, (a : Int), 0, 0, 0, 0⟩ [f]], fB ⟨9, (a : Int), 0, 0, 0, 0⟩ [fB ⟨4, 0, 0, 0, 0, 0⟩ [fB ⟨9, (a : Int), 0, 0, 0, 0⟩ [f]]]]) (.bin 7 0 0 0 (.un 4 0 0 0 (.un 9 a 0 0 (rt f))) (.un 9 a 0 0 (.un 4 0 0 0 (.un 9 a 0 0 (rt f))))))
  sE : Hid (eqO (nth M.rel a) N N = true → semT M (.bin 7 0 0 0 (.un 9 a 0 0 (rt f)) (rt f)) = (allW N, true) ∧ semT M (.bin 7 0 0 0 (.un 9 a 0 0 (rt f)) (.un 9 a 0 0 (.un 9 a 0 0 (rt f)))) = (allW N, true) ∧ semT M (.bin 7 0 0 0 (.un 4 0 0 0 (.un 9 a 0 0 (rt f))) (.un 9 a 0 0 (.un 4 0 0 0 (.un 9 a 0 0 (rt f))))) = (allW N, true))
/-- A tree has at most as many different trees below it as a list that holds them. -/
theorem fsize_axK {a b : Fm} (q : Int) (ha : fsize a ≤ 60) (hb : fsize b ≤ 60) : fsize (.bin 7 0 0 0 (.un 9 q 0 0 (.bin 7 0 0 0 a b)) (.bin 7 0 0 0 (.un 9 q 0 0 a) (.un 9 q 0 0 b))) ≤ 200 := by
  have := fsize_sub (t := .bin 7 0 0 0 (.un 9 q 0 0 (.bin 7 0 0 0 a b)) (.bin 7 0 0 0 (.un 9 q 0 0 a) (.un 9 q 0 0 b)))
    (L := addT a [] ++ (addT b [] ++ [.bin 7 0 0 0 (.un 9 q 0 0 (.bin 7 0 0 0 a b)) (.bin 7 0 0 0 (.un 9 q 0 0 a) (.un 9 q 0 0 b)), .un 9 q 0 0 (.bin 7 0 0 0 a b), .bin 7 0 0 0 a b, .bin 7 0 0 0 (.un 9 q 0 0 a) (.un 9 q 0 0 b), .un 9 q 0 0 a, .un 9 q 0 0 b])) (fun s hs => by
      simp only [sbt] at hs
      simp only [List.mem_append, List.mem_cons, List.not_mem_nil, or_false]
      rcases hs with h | (h | h | h | h) | h | (h | h) | h | h
      all_goals first
        | exact .inl (sbt_mem h)
        | exact .inr (.inl (sbt_mem h))
        | (right; right; simp [h]))
  simp only [List.length_append, List.length_cons, List.length_nil] at this
  simp only [fsize] at *
  omega
section
variable {M : Mo} {N : Nat} (ok : MoOk M N) {a : Nat} (ha : a < M.rel.length)
include ok ha
omit ok in
theorem sem_know {t : Fm} {s : BitVec 64} (h : semT M t = (s, true)) : semT M (.un 9 (a : Int) 0 0 t) = (relBox (nth M.rel a) s, true) := by
  rw [semT_un _ _ _ _ (by rw [h]), h]
  have hng : ¬ ((M.rel.length : Int) ≤ (a : Int)) := by omega
  simp [valN, hng]
omit ha in
theorem sem_imp {t u : Fm} {s r : BitVec 64} (h : semT M t = (s, true)) (h2 : semT M u = (r, true)) : semT M (.bin 7 0 0 0 t u) = ((allW N &&& ~~~ s) ||| r, true) := by
  have hNt : M.worlds.toNat = N := by rw [ok.worlds]; exact Int.toNat_natCast N
  rw [semT_bin _ _ _ _ (by rw [h]) (by rw [h2]), h, h2]
  simp [valN, hNt]
omit ha in
theorem sem_not {t : Fm} {s : BitVec 64} (h : semT M t = (s, true)) : semT M (.un 4 0 0 0 t) = (allW N &&& ~~~ s, true) := by
  have hNt : M.worlds.toNat = N := by rw [ok.worlds]; exact Int.toNat_natCast N
  rw [semT_un _ _ _ _ (by rw [h]), h]
  simp [valN, hNt]
theorem axF {f h : List Nd} (If : IsF f (rt f)) (Ih : IsF h (rt h)) (Sf : semT M (rt f) = (holdsOf M f, true)) (Sh : semT M (rt h) = (holdsOf M h, true)) (hlf : f.length ≤ 60) (hlh : h.length ≤ 60) : AxF M N a f h := by
  have hR4 := ok.rel
  have zf : fsize (rt f) ≤ 60 := Nat.le_trans If.sz hlf
  have zh : fsize (rt h) ≤ 60 := Nat.le_trans Ih.sz hlh
  have inf : Sub (holdsOf M f) (allW N) := by have := semT_in ok (rt f); rw [Sf] at this; exact this
  have inh : Sub (holdsOf M h) (allW N) := by have := semT_in ok (rt h); rw [Sh] at this; exact this
  have un9 : ∀ t, fsize (.un 9 (a : Int) 0 0 t) ≤ fsize t + 1 := fun t => fsize_un 9 (a : Int) 0 0
  have un4 : ∀ t, fsize (.un 4 0 0 0 t) ≤ fsize t + 1 := fun t => fsize_un 4 0 0 0
  have b7 : ∀ t u, fsize (.bin 7 0 0 0 t u) ≤ fsize t + fsize u + 1 := fun t u => fsize_bin 7 0 0 0
  have kk : ∀ {l t}, IsF l t → fsize t ≤ 190 → IsF (fB ⟨9, (a : Int), 0, 0, 0, 0⟩ [l]) (.un 9 (a : Int) 0 0 t) := fun h1 h2 => isF_un h1 (fok_know a (by omega) h1.fk) (Nat.le_trans (un9 _) (by omega))
  have nn : ∀ {l t}, IsF l t → fsize t ≤ 190 → IsF (fB ⟨4, 0, 0, 0, 0, 0⟩ [l]) (.un 4 0 0 0 t) := fun h1 h2 => isF_un h1 (fok_not h1.fk) (Nat.le_trans (un4 _) (by omega))
  have ii : ∀ {l t m u}, IsF l t → IsF m u → fsize (.bin 7 0 0 0 t u) ≤ 200 → IsF (fB ⟨7, 0, 0, 0, 0, 0⟩ [l, m]) (.bin 7 0 0 0 t u) := fun h1 h2 h3 => isF_bin h1 h2 (fok_imp h1.fk h2.fk) h3 rfl
  have q1 := un9 (rt f)
  have q2 := un9 (rt h)
  have q3 := un9 (.un 9 (a : Int) 0 0 (rt f))
  have q4 := un4 (.un 9 (a : Int) 0 0 (rt f))
  have q5 := un9 (.un 4 0 0 0 (.un 9 (a : Int) 0 0 (rt f)))
  have q6 := b7 (rt f) (rt h)
  have kf := kk If (by omega)
  have s1 := sem_know ha Sf
  have s2 := sem_know ha s1
  have s3 := sem_not ok s1
  refine ⟨Lib.hid (ii (kk (ii If Ih (by omega)) (by omega)) (ii kf (kk Ih (by omega)) (Nat.le_trans (b7 _ _) (by omega))) (fsize_axK _ zf zh)), Lib.hid ?_, Lib.hid (ii kf If (Nat.le_trans (b7 _ _) (by omega))), Lib.hid (ii kf (kk kf (by omega)) (Nat.le_trans (b7 _ _) (by omega))), Lib.hid (ii (nn kf (by omega)) (kk (nn kf (by omega)) (by omega)) (Nat.le_trans (b7 _ _) (by omega))), Lib.hid fun he => ⟨?_, ?_, ?_⟩⟩
  · rw [sem_imp ok (sem_know ha (sem_imp ok Sf Sh)) (sem_imp ok s1 (sem_know ha Sh)), lawK ok ha _ _ inh]
  · rw [sem_imp ok s1 Sf, lawT ok ha he _ inf]
  · rw [sem_imp ok s1 s2, law4 ok ha he]
  · rw [sem_imp ok s3 (sem_know ha s3), law5 ok ha he]
end
end Wt

/- Plain laws of observations: the model that is built is right; what its formulas say. -/
namespace Wt
open Go Go.RowKit Go.Proofs Fm

theorem tabsErr_all {n : Int} : ∀ {l : List (List Nd)}, tabsErr n l = 0 → ∀ f ∈ l, tabErr f n = 0
  | [], _, f, hf => absurd hf (by simp)
  | x :: l, h, f, hf => by
    unfold tabsErr at h
    by_cases hx : tabErr x n = 0
    · rw [if_neg (by simp [hx])] at h
      rcases List.mem_cons.1 hf with rfl | hf
      · exact hx
      · exact tabsErr_all h f hf
    · rw [if_pos hx] at h; exact absurd h hx
theorem seenErr_all {n : Int} : ∀ {L : List (List (List Nd))}, seenErr n L = 0 → ∀ l ∈ L, ∀ f ∈ l, tabErr f n = 0
  | [], _, l, hl => absurd hl (by simp)
  | x :: L, h, l, hl => by
    unfold seenErr at h
    by_cases hx : tabsErr n x = 0
    · rw [if_neg (by simp [hx])] at h
      rcases List.mem_cons.1 hl with rfl | hl
      · exact tabsErr_all hx
      · exact seenErr_all h l hl
    · rw [if_pos hx] at h; exact absurd h hx
structure ObOk (n : Int) (law : List Nd) (seen : List (List (List Nd))) : Prop where
  agents : seen.length ≤ 4
  few : ∀ l ∈ seen, l.length ≤ 16
  lw : tabErr law n = 0
  sn : ∀ l ∈ seen, ∀ f ∈ l, tabErr f n = 0
  some : tabOf law n ≠ 0#64
theorem obErr_ok {n : Int} {law : List Nd} {seen : List (List (List Nd))} (h : obErr n law seen = 0) : ObOk n law seen := by
  unfold obErr at h
  by_cases h1 : 4 < seen.length ∨ ∃ l ∈ seen, 16 < l.length
  · rw [if_pos h1] at h; omega
  rw [if_neg h1] at h
  by_cases h2 : tabErr law n = 0
  · rw [if_neg (by simp [h2])] at h
    by_cases h3 : seenErr n seen = 0
    · rw [if_neg (by simp [h3])] at h
      by_cases h4 : tabOf law n = 0#64
      · rw [if_pos h4] at h; omega
      · exact ⟨by omega, fun l hl => by
          by_cases h5 : 16 < l.length
          · exact absurd (.inr ⟨l, hl, h5⟩) h1
          · omega, h2, seenErr_all h3, h4⟩
    · rw [if_pos h3] at h; exact absurd h h3
  · rw [if_pos h2] at h; exact absurd h h2
theorem bt_tab {f : List Nd} {n : Int} (h : tabErr f n = 0) {v : Nat} (hv : v < 64) : bt (tabOf f n) v = (decide (v < 2 ^ n.toNat) && pv v.testBit (rt f)) := by
  rw [tab_eq h, bt_setTo _ hv]
theorem cellR_len (st : List Nat) (ts : List (BitVec 64)) : (cellR st ts).length = st.length := by simp [cellR]
theorem cellR_nth {st : List Nat} (ts : List (BitVec 64)) {x : Nat} (hx : x < st.length) : nth (cellR st ts) x = setTo (fun w => alikeT ts (nth st x) (nth st w)) st.length := nth_mapN _ _ hx
theorem bt_cell {st : List Nat} (ts : List (BitVec 64)) (h64 : st.length ≤ 64) {x y : Nat} (hx : x < st.length) (hy : y < st.length) : bt (nth (cellR st ts) x) y = alikeT ts (nth st x) (nth st y) := by
  rw [cellR_nth ts hx, bt_setTo _ (by omega)]; simp [hy]
theorem setTo_in (p : Nat → Bool) (n : Nat) : Sub (setTo p n) (allW n) := fun k hk h => by
  rw [bt_setTo p hk] at h
  rw [bt_allW]; simp [hk]; simp at h; exact h.1
theorem valR_len (n : Nat) (st : List Nat) : (valR n st).length = n := by simp [valR]
section
variable {n : Int} {law : List Nd} {seen : List (List (List Nd))} (h : obErr n law seen = 0)
include h
theorem ob_len : (obS n law seen).length ≤ 64 ∧ 1 ≤ (obS n law seen).length := by
  have e : obS n law seen = memL (tabOf law n) := if_pos h
  rw [e]; exact ⟨memL_len _, memL_pos (obErr_ok h).some⟩
theorem ob_eq : obM n law seen = ⟨(obS n law seen).length, valR n.toNat (obS n law seen), seen.map fun l => cellR (obS n law seen) (l.map fun f => tabOf f n)⟩ := by
  have e : obS n law seen = memL (tabOf law n) := if_pos h
  rw [e]; exact if_pos h
theorem ob_lt {k : Nat} (hk : k < (obS n law seen).length) : nth (obS n law seen) k < 2 ^ n.toNat ∧ nth (obS n law seen) k < 64 ∧ bt (tabOf law n) (nth (obS n law seen) k) = true := by
  have e : obS n law seen = memL (tabOf law n) := if_pos h
  rw [e] at hk ⊢
  obtain ⟨h1, h2⟩ := mem_memL.1 (nth_mem hk)
  refine ⟨?_, h1, h2⟩
  rw [bt_tab (obErr_ok h).lw h1] at h2
  simp at h2; exact h2.1
theorem ob_ok : MoOk (obM n law seen) (obS n law seen).length := by
  have ok := obErr_ok h
  obtain ⟨_, _, h0, h6, _⟩ := tabErr_ok ok.lw
  obtain ⟨l1, l2⟩ := ob_len h
  rw [ob_eq h]
  refine ⟨rfl, l2, l1, by simpa using ok.agents, by show (valR _ _).length ≤ 8; rw [valR_len]; omega, ?_, ?_, ?_⟩
  · intro r hr
    obtain ⟨l, hl, rfl⟩ := List.mem_map.1 hr
    exact cellR_len _ _
  · intro s hs
    obtain ⟨i, hi, rfl⟩ := List.mem_map.1 hs
    exact andNot_zero.2 (setTo_in _ _)
  · intro r hr s hs
    obtain ⟨l, hl, rfl⟩ := List.mem_map.1 hr
    obtain ⟨v, hv, rfl⟩ := List.mem_map.1 hs
    exact andNot_zero.2 (setTo_in _ _)
theorem ob_val {k : Nat} (hk : k < (obS n law seen).length) (i : Nat) : bt (nth (obM n law seen).val i) k = (nth (obS n law seen) k).testBit i := by
  obtain ⟨l1, l2⟩ := ob_len h
  rw [ob_eq h]
  show bt (nth (valR _ _) i) k = _
  by_cases hi : i < n.toNat
  · have e : nth (valR n.toNat (obS n law seen)) i = setTo (fun w => (nth (obS n law seen) w).testBit i) (obS n law seen).length := by
      unfold valR; rw [nth_mapN _ _ (by simpa using hi), nth_range hi]
    rw [e, bt_setTo _ (by omega)]; simp [hk]
  · rw [nth_out (by rw [valR_len]; omega)]
    have h2 := (ob_lt h hk).1
    have h3 : 2 ^ n.toNat ≤ 2 ^ i := Nat.pow_le_pow_right (by decide) (by omega)
    rw [Nat.testBit_lt_two_pow (by omega)]
    exact bt_zero k
/-- A formula of the facts holds at the states of its table. -/
theorem ob_sem {f : List Nd} (hf : tabErr f n = 0) : reqErr (obM n law seen) f = 0 ∧ ∃ S, semT (obM n law seen) (rt f) = (S, true) ∧ ∀ k, k < (obS n law seen).length → bt S k = bt (tabOf f n) (nth (obS n law seen) k) := by
  have ok := ob_ok h
  obtain ⟨f1, f2, f3, f4, f5⟩ := tabErr_ok hf
  have hreq : reqErr (obM n law seen) f = 0 := by
    unfold reqErr
    rw [if_neg (by simp [ok.check]), if_neg (by simp [f1]), if_neg (by omega)]
    rw [fits_prop f1 f2 (by omega)] at f5
    have hv : (obM n law seen).val.length = n.toNat := by rw [ob_eq h]; exact valR_len _ _
    rw [hv]
    have e : fFits f (obM n law seen).rel.length n.toNat = true := by
      unfold fFits
      rw [f1, agents_none f2, below_zero]
      unfold below; rw [f5]; simp
    rw [e]; simp
  refine ⟨hreq, (semT (obM n law seen) (rt f)).1, ?_, fun k hk => ?_⟩
  · obtain ⟨s1, s2⟩ := set_sem ok.check (IsF.of f1)
    rw [hreq] at s1
    exact Prod.ext_iff.2 ⟨rfl, s1.symm⟩
  · obtain ⟨s1, s2⟩ := set_sem ok.check (IsF.of f1)
    rw [hreq] at s1
    rw [sem_pv ok _ (prop_frags f1 f2) s1.symm k hk]
    obtain ⟨e1, e2, _⟩ := ob_lt h hk
    rw [bt_tab hf e2]
    have : (fun i => bt (nth (obM n law seen).val i) k) = (nth (obS n law seen) k).testBit := funext fun i => ob_val h hk i
    rw [this]; simp [e1]
theorem ob_row {a : Nat} (ha : a < seen.length) : nth (obM n law seen).rel a = cellR (obS n law seen) ((nth seen a).map fun f => tabOf f n) := by
  rw [ob_eq h]; exact nth_mapN _ _ ha
theorem ob_rel : (obM n law seen).rel.length = seen.length := by rw [ob_eq h]; simp
end
theorem alikeT_refl (ts : List (BitVec 64)) (v : Nat) : alikeT ts v v = true := by simp [alikeT]
theorem alikeT_of {ts : List (BitVec 64)} {v w : Nat} : alikeT ts v w = true ↔ ∀ t ∈ ts, bt t v = bt t w := by
  unfold alikeT; rw [List.all_eq_true]
  exact ⟨fun h t ht => eq_of_beq (h t ht), fun h t ht => by rw [h t ht]; simp⟩
theorem alikeT_symm {ts : List (BitVec 64)} {v w : Nat} (h : alikeT ts v w = true) : alikeT ts w v = true := alikeT_of.2 fun t ht => (alikeT_of.1 h t ht).symm
theorem alikeT_trans {ts : List (BitVec 64)} {u v w : Nat} (h : alikeT ts u v = true) (h2 : alikeT ts v w = true) : alikeT ts u w = true := alikeT_of.2 fun t ht => (alikeT_of.1 h t ht).trans (alikeT_of.1 h2 t ht)
/-- A cell's rows are one. -/
theorem cell_same {st : List Nat} (ts : List (BitVec 64)) {x y : Nat} (hx : x < st.length) (hy : y < st.length) (h : alikeT ts (nth st x) (nth st y) = true) : nth (cellR st ts) x = nth (cellR st ts) y := by
  rw [cellR_nth ts hx, cellR_nth ts hy]
  refine setTo_congr fun k hk => ?_
  rw [Bool.eq_iff_iff]
  exact ⟨fun e => alikeT_trans (alikeT_symm h) e, fun e => alikeT_trans h e⟩
/-- An agent whose rows lie in a set or outside of it knows whether it is there. -/
theorem know_whether {M : Mo} {N : Nat} (ok : MoOk M N) {a : Nat} (ha : a < M.rel.length) {t : Fm} {S : BitVec 64} (hS : semT M t = (S, true)) (_hin : Sub S (allW N))
    (h : ∀ x, x < N → ∀ y, y < N → bt (nth (nth M.rel a) x) y = true → bt S y = bt S x) :
    semT M (.bin 6 0 0 0 (.un 9 (a : Int) 0 0 t) (.un 9 (a : Int) 0 0 (.un 4 0 0 0 t))) = (allW N, true) := by
  have k1 := sem_know ha hS
  have k2 := sem_know ha (sem_not ok hS)
  rw [semT_bin _ _ _ _ (by rw [k1]) (by rw [k2]), k1, k2]
  have e : relBox (nth M.rel a) S ||| relBox (nth M.rel a) (allW N &&& ~~~ S) = allW N := by
    have h64 := ok.most
    refine Sub.antisymm (fun k hk hb => ?_) fun k hk hb => ?_
    · rw [bt_or, Bool.or_eq_true] at hb
      rcases hb with hb | hb
      · exact agent_in ok ha _ k hk hb
      · exact agent_in ok ha _ k hk hb
    · have hkN : k < N := by rw [bt_allW] at hb; simp at hb; exact hb.2
      have hrow := (row_in ok ha).2 k hkN
      have hyN : ∀ y, y < 64 → bt (nth (nth M.rel a) k) y = true → y < N := fun y hy hb => by
        have := hrow y hy hb; rw [bt_allW] at this; simp at this; exact this.2
      rw [bt_or, Bool.or_eq_true]
      by_cases hs : bt S k = true
      · left
        exact (box_sub ok ha hk hkN).2 fun y hy hb => by rw [h k hkN y (hyN y hy hb) hb]; exact hs
      · right
        refine (box_sub ok ha hk hkN).2 fun y hy hb => ?_
        have := h k hkN y (hyN y hy hb) hb
        rw [bt_and, bt_not, bt_allW, this]
        simp at hs
        simp [hy, hyN y hy hb, hs]
  simp [valN, e]
theorem ob_knows {n : Int} {law : List Nd} {seen : List (List (List Nd))} (h : obErr n law seen = 0) {a : Nat} (ha : a < seen.length) {f : List Nd} (hf : f ∈ nth seen a) :
    semT (obM n law seen) (.bin 6 0 0 0 (.un 9 (a : Int) 0 0 (rt f)) (.un 9 (a : Int) 0 0 (.un 4 0 0 0 (rt f)))) = (allW (obS n law seen).length, true) := by
  have ok := ob_ok h
  have hfe := (obErr_ok h).sn _ (nth_mem ha) f hf
  obtain ⟨_, S, s1, s2⟩ := ob_sem h hfe
  refine know_whether ok (by rw [ob_rel h]; exact ha) s1 (by have := semT_in ok (rt f); rw [s1] at this; exact this) fun x hx y hy hb => ?_
  rw [ob_row h ha, bt_cell _ (ob_len h).1 hx hy] at hb
  rw [s2 x hx, s2 y hy]
  exact (alikeT_of.1 hb _ (List.mem_map.2 ⟨f, hf, rfl⟩)).symm
end Wt

/- A model in memory of its own, one cell of a row written; the model after the announcement whether a formula is true. -/
namespace Wt
open Go Go.RowKit Go.Maps Go.Proofs Fm

theorem nth_setS {α : Type} [Inhabited α] {l : List α} {k : Nat} (x : α) (h : k < l.length) : nth (l.set k x) k = x := by
  rw [nth_eq _ _ (by simpa using h)]; simp
theorem nth_setO {α : Type} [Inhabited α] {l : List α} {k j : Nat} (x : α) (h : j ≠ k) : nth (l.set k x) j = nth l j := by
  unfold nth
  rw [List.getD_eq_getElem?_getD, List.getD_eq_getElem?_getD, List.getElem?_set_ne (by omega)]
section
variable {B : Nat} {w : World} {va ra : Option Addr} {vc rc : Nat} {A A' : Mo} {svs : List Value}
/-- Where a row lies. -/
theorem FrM.row (h : FrM B w va ra vc rc A svs) {q : Nat} (hq : q < A.rel.length) : ∃ b a c, ra = some ⟨b, 0, none⟩ ∧ B ≤ b ∧ b < w.heap.size ∧ nth svs q = .slice a (nth A.rel q).length c ∧ w.cell? ⟨b, q, none⟩ = some (.slice a (nth A.rel q).length c) ∧ RU w a (nth A.rel q) := by
  obtain ⟨a, c, hv, hu⟩ := RU_of_OU (h.rw q hq) (h.big.2.2 q hq)
  rcases h.orr.2 with ⟨e, h0⟩ | ⟨g, cap, cur, e, hb, hg, hnc, hcm, hcs, htake⟩
  · have := h.rl; omega
  · simp only [Value.slice.injEq] at e
    obtain ⟨rfl, -, -⟩ := e
    refine ⟨g, a, c, rfl, hb, (Array.getElem?_eq_some_iff.1 hg).1, hv, ?_, hu⟩
    rw [cell_of_row w g _ cur _ (0, 0) hg, ← hv]
    have hl := h.rl
    have h1 : svs[q]? = some (nth svs q) := by rw [nth_eq svs q (by omega)]; simp [show q < svs.length by omega]
    have h2 : (cur.toList.take (svs.length * 1))[q]? = some (nth svs q) := by rw [htake]; exact h1
    rw [List.getElem?_take, if_pos (by omega)] at h2
    simpa using h2
theorem ownRow_set {T sz n g k : Nat} {v u : Value} {xs : List Value} (h : w.ownsRow B T sz v n xs) (hv : v.ownBlock = none ∨ v.ownBlock ≠ some g) : (w.setCell ⟨g, k, none⟩ u).ownsRow B T sz v n xs :=
  h.kept (row := some g) ⟨rfl, rfl, rfl, by simp, fun j _ hj => heap_setCell_other w ⟨g, k, none⟩ j _ (fun e => hj (by simp [e]))⟩ hv
/-- One cell of a row is written. -/
theorem FrM.set (h : FrM B w va ra vc rc A svs) {q k : Nat} (hq : q < A.rel.length) (hk : k < (nth A.rel q).length) (s : BitVec 64) (h1 : A'.val = A.val) (h2 : A'.rel.length = A.rel.length) (h3 : ∀ j, j ≠ q → nth A'.rel j = nth A.rel j) (h4 : nth A'.rel q = (nth A.rel q).set k s) :
    ∃ g c, nth svs q = .slice (some ⟨g, 0, none⟩) (nth A.rel q).length c ∧ B ≤ g ∧ g < w.heap.size ∧ w.frozen? ⟨g, k, none⟩ = false ∧ w.cell? ⟨g, k, none⟩ = some (uv (nth (nth A.rel q) k)) ∧ FrM B (w.setCell ⟨g, k, none⟩ (uv s)) va ra vc rc A' svs := by
  obtain ⟨b, a, c, -, -, -, hv, -, hu⟩ := h.row hq
  have ho := h.rw q hq
  rw [hv] at ho
  obtain ⟨g, rfl, hb, hg, hf, -, hset⟩ := OU.set ho hk s
  obtain ⟨b2, o2, e2, -, hc2⟩ := hu.get hk
  simp only [Option.some.injEq, Addr.mk.injEq] at e2
  obtain ⟨rfl, rfl, -⟩ := e2
  rw [Nat.zero_add] at hc2
  have hob : (nth svs q).ownBlock = some g := by rw [hv]; rfl
  have hap : ∀ j, j < svs.length → j ≠ q → (nth svs j).ownBlock = none ∨ (nth svs j).ownBlock ≠ some g := fun j hj hne => by
    rcases Nat.lt_or_ge j q with hlt | hge
    · rcases h.dj j q hlt (by rw [h.rl]; exact hq) with h5 | h5
      · rw [hob] at h5; cases h5
      · rw [hob] at h5; exact .inr fun e => h5 e.symm
    · rcases h.dj q j (by omega) hj with h5 | h5
      · exact .inl h5
      · rw [hob] at h5; exact .inr h5
  have hwr : (nth A.rel q).length = ((nth A.rel q).set k s).length := by simp
  refine ⟨g, c, hv, hb, hg, hf, hc2, ⟨?_, ?_, by rw [h.rl, h2], fun j hj => ?_, h.dj, by rw [h1]; exact h.dv, by rw [h1]; exact h.big.1, by rw [h2]; exact h.big.2.1, fun j hj => ?_⟩⟩
  · rw [h1]
    refine ownRow_set h.ov ?_
    rcases h.dv q (by rw [h.rl]; exact hq) with h5 | h5
    · rw [hob] at h5; cases h5
    · rw [hob] at h5; exact .inr fun e => h5 e.symm
  · rw [h2]
    refine ownRow_set h.orr ?_
    rcases own_ne h.orr (h.rw q hq) (by decide) with h5 | h5
    · exact .inl h5
    · rw [hob] at h5; exact .inr h5
  · by_cases hjq : j = q
    · subst hjq
      rw [h4, hv]
      have := hset
      unfold OU at this ⊢
      exact this
    · rw [h3 j hjq]
      exact ownRow_set (h.rw j (by omega)) (hap j (by rw [h.rl]; omega) hjq)
  · by_cases hjq : j = q
    · subst hjq; rw [h4, List.length_set]; exact h.big.2.2 j hq
    · rw [h3 j hjq]; exact h.big.2.2 j (by omega)
end
/-- A world's set after the announcement whether s. -/
def whE (s : BitVec 64) (w : Nat) (x : BitVec 64) : BitVec 64 := if bt s w then x &&& s else x &&& ~~~ s
def whP (s : BitVec 64) (r : List (BitVec 64)) (j : Nat) : List (BitVec 64) := (List.range r.length).map fun w => if w < j then whE s w (nth r w) else nth r w
def whR (s : BitVec 64) (R : List (List (BitVec 64))) (a j : Nat) : List (List (BitVec 64)) := (List.range R.length).map fun q => if q < a then whRow s (nth R q) else if q = a then whP s (nth R q) j else nth R q
theorem nth_mapR {β : Type} [Inhabited β] (F : Nat → β) {n k : Nat} (h : k < n) : nth ((List.range n).map F) k = F k := by
  rw [nth_mapN _ _ (by simpa using h), nth_range h]
theorem whP_len (s : BitVec 64) (r : List (BitVec 64)) (j : Nat) : (whP s r j).length = r.length := by simp [whP]
theorem whR_len (s : BitVec 64) (R : List (List (BitVec 64))) (a j : Nat) : (whR s R a j).length = R.length := by simp [whR]
theorem whP_zero (s : BitVec 64) (r : List (BitVec 64)) : whP s r 0 = r := nth_ext (whP_len _ _ _) fun k hk => by
  rw [whP_len] at hk
  unfold whP
  rw [nth_mapR _ hk]; simp
theorem whP_full (s : BitVec 64) (r : List (BitVec 64)) : whP s r r.length = whRow s r := nth_ext (by simp [whP, whRow]) fun k hk => by
  rw [whP_len] at hk
  unfold whP whRow
  rw [nth_mapR _ hk, nth_mapR _ hk, if_pos hk]
  rfl
theorem whP_nth (s : BitVec 64) (r : List (BitVec 64)) {j : Nat} (h : j < r.length) : nth (whP s r j) j = nth r j := by
  unfold whP
  rw [nth_mapR _ h, if_neg (by omega)]
theorem whP_step (s : BitVec 64) (r : List (BitVec 64)) {j : Nat} (h : j < r.length) : whP s r (j + 1) = (whP s r j).set j (whE s j (nth r j)) := nth_ext (by simp [whP]) fun k hk => by
  rw [whP_len] at hk
  by_cases hkj : k = j
  · subst hkj
    rw [nth_setS _ (by rw [whP_len]; exact hk)]
    unfold whP
    rw [nth_mapR _ hk, if_pos (by omega)]
  · rw [nth_setO _ hkj]
    unfold whP
    rw [nth_mapR _ hk, nth_mapR _ hk]
    by_cases hlt : k < j
    · rw [if_pos hlt, if_pos (by omega)]
    · rw [if_neg hlt, if_neg (by omega)]
theorem whR_nth (s : BitVec 64) (R : List (List (BitVec 64))) {a j : Nat} (h : a < R.length) : nth (whR s R a j) a = whP s (nth R a) j := by
  unfold whR
  rw [nth_mapR _ h, if_neg (by omega), if_pos rfl]
theorem whR_other (s : BitVec 64) (R : List (List (BitVec 64))) {a j q : Nat} (h : q ≠ a) : nth (whR s R a (j + 1)) q = nth (whR s R a j) q := by
  by_cases hq : q < R.length
  · unfold whR
    rw [nth_mapR _ hq, nth_mapR _ hq, if_neg h, if_neg h]
  · rw [nth_out (by rw [whR_len]; omega), nth_out (by rw [whR_len]; omega)]
theorem whR_zero (s : BitVec 64) (R : List (List (BitVec 64))) : whR s R 0 0 = R := nth_ext (whR_len _ _ _ _) fun k hk => by
  rw [whR_len] at hk
  unfold whR
  rw [nth_mapR _ hk, if_neg (by omega)]
  by_cases h : k = 0
  · rw [if_pos h, whP_zero]
  · rw [if_neg h]
theorem whR_next (s : BitVec 64) (R : List (List (BitVec 64))) {a : Nat} : whR s R (a + 1) 0 = whR s R a (nth R a).length := nth_ext (by rw [whR_len, whR_len]) fun k hk => by
  rw [whR_len] at hk
  unfold whR
  rw [nth_mapR _ hk, nth_mapR _ hk]
  rcases Nat.lt_trichotomy k a with h | h | h
  · rw [if_pos (by omega), if_pos h]
  · subst h; rw [if_pos (by omega), if_neg (by omega), if_pos rfl, whP_full]
  · rw [if_neg (show ¬ k < a + 1 by omega), if_neg (show ¬ k < a by omega), if_neg (show ¬ k = a by omega)]
    by_cases h2 : k = a + 1
    · rw [if_pos h2, whP_zero]
    · rw [if_neg h2]
theorem whR_full (s : BitVec 64) (R : List (List (BitVec 64))) : whR s R R.length 0 = R.map (whRow s) := nth_ext (by simp [whR]) fun k hk => by
  rw [whR_len] at hk
  unfold whR
  rw [nth_mapR _ hk, if_pos hk, nth_mapN _ _ hk]
/-- The rounds of Whether. -/
structure WhI (W0 : World) (B bo : Nat) (W : Int) (V : List (BitVec 64)) (R : List (List (BitVec 64))) (s : BitVec 64) (va ra : Option Addr) (vc rc : Nat) (svs : List Value) (a j : Nat) (wr : World) : Prop where
  fr : FrM B wr va ra vc rc ⟨W, V, whR s R a j⟩ svs
  out : OutAt wr bo (.int .i64 W) (.slice va V.length vc) (.slice ra R.length rc)
  old : Below B W0 wr
  sz : W0.heap.size ≤ wr.heap.size
section
variable {W0 wr : World} {B bo : Nat} {W : Int} {V : List (BitVec 64)} {R : List (List (BitVec 64))} {s : BitVec 64} {va ra : Option Addr} {vc rc : Nat} {svs : List Value} {a j : Nat}
theorem WhI.row (h : WhI W0 B bo W V R s va ra vc rc svs a j wr) {q : Nat} (hq : q < R.length) : ∃ b, ra = some ⟨b, 0, none⟩ ∧ b < wr.heap.size ∧ wr.cell? ⟨b, q, none⟩ = some (nth svs q) := by
  obtain ⟨b, p, c, h1, _, h2, h3, h4, _⟩ := h.fr.row (q := q) (by rw [whR_len]; exact hq)
  exact ⟨b, h1, h2, by rw [h3]; exact h4⟩
theorem WhI.step (h : WhI W0 B bo W V R s va ra vc rc svs a j wr) (ha : a < R.length) (hj : j < (nth R a).length) (hsv : ∀ q g, q < R.length → (nth svs q).ownBlock = some g → g < bo) :
    ∃ g c, nth svs a = .slice (some ⟨g, 0, none⟩) (nth R a).length c ∧ g < wr.heap.size ∧ wr.frozen? ⟨g, j, none⟩ = false ∧ wr.cell? ⟨g, j, none⟩ = some (.int .u64 (un (nth (nth R a) j))) ∧ WhI W0 B bo W V R s va ra vc rc svs a (j + 1) (wr.setCell ⟨g, j, none⟩ (.int .u64 (un (whE s j (nth (nth R a) j))))) := by
  have e1 : nth (whR s R a j) a = whP s (nth R a) j := whR_nth s R ha
  obtain ⟨g, c, h1, h2, h3, h4, h5, h6⟩ := h.fr.set (A' := ⟨W, V, whR s R a (j + 1)⟩) (q := a) (k := j) (by rw [whR_len]; exact ha) (by rw [e1, whP_len]; exact hj) (whE s j (nth (nth R a) j)) rfl (by rw [whR_len, whR_len]) (fun q hq => whR_other s R hq) (by rw [whR_nth s R ha, e1]; exact whP_step s _ hj)
  have e1 : nth (whR s R a j) a = whP s (nth R a) j := e1
  dsimp only at h1 h5
  rw [e1, whP_len] at h1
  rw [e1, whP_nth s _ hj] at h5
  refine ⟨g, c, h1, h3, h4, h5, h6, h.out.other (fun e => ?_), h.old.setCell h2 _, by simpa using h.sz⟩
  have := hsv a g ha (by rw [h1]; rfl)
  omega
theorem WhI.zero {M : Mo} (hm : FrM B wr va ra vc rc M svs) (ho : OutAt wr bo (.int .i64 M.worlds) (.slice va M.val.length vc) (.slice ra M.rel.length rc)) (hB : Below B W0 wr) (hs : W0.heap.size ≤ wr.heap.size) : WhI W0 B bo M.worlds M.val M.rel s va ra vc rc svs 0 0 wr :=
  ⟨by rw [whR_zero]; exact hm, ho, hB, hs⟩
theorem WhI.next (h : WhI W0 B bo W V R s va ra vc rc svs a (nth R a).length wr) : WhI W0 B bo W V R s va ra vc rc svs (a + 1) 0 wr :=
  ⟨by rw [whR_next]; exact h.fr, h.out, h.old, h.sz⟩
theorem WhI.drew (h : WhI W0 B bo W V R s va ra vc rc svs a j wr) : WhI W0 B bo W V R s va ra vc rc svs a j wr.drew :=
  ⟨h.fr.agree (Agree.ofExt (Ext.refl _).drew), h.out.ext (Ext.refl _).drew, h.old.drew, h.sz⟩
end
end Wt

/- Walk: slices.ContainsFunc of lists of lists of formulas; what the rounds of observe.Build keep. -/
namespace Wt
open Go Go.RowKit Go.Maps Go.Proofs Fm

theorem cf_build1 (args : Array Value) (W : World) : (callFunc 27 args).run Tryz.prog W = .ok (.enter 27 args) W := by
  simp [callFunc, Tryz.func27, Tryz.f27]
set_option maxHeartbeats 1000000 in
theorem build1_any (a : Option Addr) (l : List (List Nd)) (c : Nat) (w : World) (hl : l.length ≤ 140737488355328) :
    Calls Tryz.prog 27 #[.slice a l.length c] w fun e w' => e = .returned (.bool (decide (16 < l.length))) ∧ w = w' := by
  have hd : decide ((16 : Int) < (l.length : Int)) = decide (16 < l.length) := by rw [decide_eq_decide]; omega
  have hd2 : decide ((l.length : Int) > 16) = decide (16 < l.length) := by rw [decide_eq_decide]; omega
  have HD := Lib.hid hd
  clear hd hd2
  go_enter Tryz.func27, Tryz.ntmps27
  go_wp2
  go_ret
  exact ⟨by show Ending.returned (.bool (decide ((16 : Int) < (l.length : Int)))) = _; rw [HD.out], rfl⟩
set_option maxHeartbeats 1000000 in
theorem indexFunc_n (a : Option Addr) (l : List (List (List Nd))) (cap : Nat) (w : World) (hr : RNNN w a l) :
    Calls Tryz.prog 42 #[.slice a l.length cap, .func (.func 27) #[] #[]] w fun e w' => (∃ i : Int, e = .returned (.int .i64 i) ∧ decide (0 ≤ i) = l.any fun r => decide (16 < r.length)) ∧ w = w' := by
  have hl := hr.len
  have hF := cf_build1
  go_enter Tryz.func42, Tryz.ntmps42
  go_wp2
  go_loopw [8] (fun i wr => ∃ k : Nat, k ≤ l.length ∧ i = .int .i64 k ∧ w = wr ∧ Hid (∀ j, j < k → decide (16 < (nth l j).length) = false)) (fun i _ => l.length - (intOf i).toNat)
  case atStart => exact ⟨0, Nat.zero_le _, rfl, rfl, fun _ h => absurd h (Nat.not_lt_zero _)⟩
  case round =>
    obtain ⟨k, hk, rfl, rfl, hno⟩ := hrel
    by_cases hlt : k < l.length
    · obtain ⟨b, off, a', c', rfl, hbl, hc, hu⟩ := hr.get k hlt
      have hB := Lib.hid (fun W => build1_any a' (nth l k) c' W hu.len)
      go_wp2_with fail
      refine (hB.out _).mono ?_
      rintro e w1 ⟨rfl, rfl⟩
      cases hb : decide (16 < (nth l k).length)
      all_goals have Hb := Lib.hid hb; clear hb
      · go_wp2
        go_roundw
        case rel => exact ⟨k + 1, hlt, by go_num, trivial, lt_step hno Hb.out⟩
        case measure => simp [intOf]; omega
      · go_wp2
        go_ret
        exact ⟨⟨k, rfl, by rw [any_yes hlt Hb.out]; simp⟩, rfl⟩
    · go_wp2
      go_ret
      exact ⟨⟨-1, rfl, by rw [any_no (fun j hj => hno j (by omega))]; rfl⟩, rfl⟩
set_option maxHeartbeats 1000000 in
theorem containsFunc_n (a : Option Addr) (l : List (List (List Nd))) (cap : Nat) (w : World) (hr : RNNN w a l) :
    Calls Tryz.prog 26 #[.slice a l.length cap, .func (.func 27) #[] #[]] w fun e w' => e = .returned (.bool (l.any fun r => decide (16 < r.length))) ∧ w = w' := by
  have Hi := Lib.hid (indexFunc_n a l cap w hr)
  go_enter Tryz.func26, Tryz.ntmps26
  go_wp2_with (go_at_call 42; refine (Hi.out).mono ?_; rintro e w1 ⟨⟨i, rfl, hi⟩, rfl⟩; have HI := Lib.hid hi; clear hi)
  go_ret
  exact ⟨by rw [← HI.out]; simp, rfl⟩
/-! The errors. -/
theorem tabsErr_at {n : Int} {l : List (List Nd)} : ∀ {j : Nat}, j < l.length → (∀ i, i < j → tabErr (nth l i) n = 0) → tabErr (nth l j) n ≠ 0 → tabsErr n l = tabErr (nth l j) n := by
  induction l with
  | nil => intro j hj; simp at hj
  | cons x l ih =>
    intro j hj h0 h1
    unfold tabsErr
    cases j with
    | zero => exact if_pos h1
    | succ j =>
      have hx : tabErr x n = 0 := h0 0 (by omega)
      rw [if_neg (by simp [hx])]
      exact ih (by simpa using hj) (fun i hi => h0 (i + 1) (by omega)) h1
theorem tabsErr_none {n : Int} {l : List (List Nd)} (h : ∀ i, i < l.length → tabErr (nth l i) n = 0) : tabsErr n l = 0 := by
  induction l with
  | nil => rfl
  | cons x l ih =>
    unfold tabsErr
    have hx : tabErr x n = 0 := h 0 (by simp)
    rw [if_neg (by simp [hx])]
    exact ih fun i hi => h (i + 1) (by simpa using hi)
theorem seenErr_at {n : Int} {L : List (List (List Nd))} : ∀ {a : Nat}, a < L.length → (∀ i, i < a → tabsErr n (nth L i) = 0) → tabsErr n (nth L a) ≠ 0 → seenErr n L = tabsErr n (nth L a) := by
  induction L with
  | nil => intro j hj; simp at hj
  | cons x l ih =>
    intro j hj h0 h1
    unfold seenErr
    cases j with
    | zero => exact if_pos h1
    | succ j =>
      have hx : tabsErr n x = 0 := h0 0 (by omega)
      rw [if_neg (by simp [hx])]
      exact ih (by simpa using hj) (fun i hi => h0 (i + 1) (by omega)) h1
theorem seenErr_none {n : Int} {L : List (List (List Nd))} (h : ∀ i, i < L.length → tabsErr n (nth L i) = 0) : seenErr n L = 0 := by
  induction L with
  | nil => rfl
  | cons x l ih =>
    unfold seenErr
    have hx : tabsErr n x = 0 := h 0 (by simp)
    rw [if_neg (by simp [hx])]
    exact ih fun i hi => h (i + 1) (by simpa using hi)
/-! The states. -/
def stTo (t : BitVec 64) (k : Nat) : List Nat := (List.range k).filter (bt t)
theorem stTo_step (t : BitVec 64) (k : Nat) : stTo t (k + 1) = stTo t k ++ if bt t k then [k] else [] := by
  unfold stTo
  rw [List.range_succ, List.filter_append]
  congr 1
  cases h : bt t k <;> simp [h]
theorem stTo_len (t : BitVec 64) (k : Nat) : (stTo t k).length ≤ k := by
  have := List.length_filter_le (bt t) (List.range k)
  simpa [stTo] using this
theorem stTo_mem {t : BitVec 64} {n : Nat} (hn : n ≤ 64) (h : ∀ k, n ≤ k → bt t k = false) : stTo t n = memL t := by
  unfold stTo memL
  obtain ⟨d, hd⟩ : ∃ d, 64 = n + d := ⟨64 - n, by omega⟩
  rw [hd, List.range_eq_range', List.range_eq_range', ← List.range'_append_1, List.filter_append]
  have : (List.range' (0 + n) d).filter (bt t) = [] := by
    rw [List.filter_eq_nil_iff]
    intro a ha
    rw [List.mem_range'_1] at ha
    rw [h a (by omega)]; simp
  rw [this, List.append_nil]
theorem tab_high {f : List Nd} {n : Int} (h : tabErr f n = 0) {k : Nat} (hk : 2 ^ n.toNat ≤ k) : bt (tabOf f n) k = false := by
  by_cases h64 : k < 64
  · rw [tab_eq h, bt_setTo _ h64, decide_eq_false (by omega)]; rfl
  · exact BitVec.getLsbD_of_ge _ _ (Nat.le_of_not_lt h64)
/-! The facts. -/
/-- The facts after k states and i facts of the next one. -/
def vaP (N : Nat) (st : List Nat) (k i : Nat) : List (BitVec 64) := (List.range N).map fun j => setTo (fun w => (nth st w).testBit j) (if j < i then k + 1 else k)
theorem vaP_len (N : Nat) (st : List Nat) (k i : Nat) : (vaP N st k i).length = N := by simp [vaP]
theorem vaP_nth {N j : Nat} (st : List Nat) (k i : Nat) (h : j < N) : nth (vaP N st k i) j = setTo (fun w => (nth st w).testBit j) (if j < i then k + 1 else k) := by
  unfold vaP; rw [nth_mapN _ _ (by simpa using h), nth_range h]
theorem vaP_zero (N : Nat) (st : List Nat) : vaP N st 0 0 = List.replicate N 0#64 := by
  refine nth_ext (by simp [vaP]) fun k hk => ?_
  rw [vaP_len] at hk
  rw [vaP_nth st 0 0 hk, nth_eq _ _ (by simpa using hk)]
  simp [setTo]
theorem vaP_next (N : Nat) (st : List Nat) (k : Nat) : vaP N st (k + 1) 0 = vaP N st k N := by
  refine nth_ext (by simp [vaP]) fun j hj => ?_
  rw [vaP_len] at hj
  rw [vaP_nth st _ _ hj, vaP_nth st _ _ hj, if_neg (by omega), if_pos hj]
theorem vaP_all (N : Nat) (st : List Nat) : vaP N st st.length 0 = valR N st := by
  refine nth_ext (by simp [vaP, valR]) fun j hj => ?_
  rw [vaP_len] at hj
  unfold valR
  rw [vaP_nth st _ _ hj, if_neg (by omega), nth_mapN _ _ (by simpa using hj), nth_range hj]
theorem vaP_set {N i : Nat} (st : List Nat) (k : Nat) (h : i < N) : (vaP N st k i).set i (setTo (fun w => (nth st w).testBit i) (k + 1)) = vaP N st k (i + 1) := by
  refine nth_ext (by simp [vaP]) fun j hj => ?_
  rw [List.length_set, vaP_len] at hj
  by_cases e : j = i
  · subst e
    rw [nth_setS _ (by rw [vaP_len]; exact hj), vaP_nth st _ _ hj, if_pos (by omega)]
  · rw [nth_setO _ e, vaP_nth st _ _ hj, vaP_nth st _ _ hj]
    by_cases h2 : j < i
    · rw [if_pos h2, if_pos (by omega)]
    · rw [if_neg h2, if_neg (by omega)]
/-! Rows in memory of the call. -/
/-- Rows that the call has made. -/
structure TL (W0 : World) (L : List (List (BitVec 64))) (svs : List Value) (v : Value) (w : World) : Prop where
  e : Ext W0 w
  len : svs.length = L.length
  own : w.ownsRow W0.heap.size 22 1 v svs.length svs
  rw : ∀ j, j < L.length → OU w W0.heap.size (nth svs j) (nth L j)
section
variable {W0 w w' W1 : World} {L : List (List (BitVec 64))} {svs : List Value} {v v' : Value}
theorem TL.nil (W0 w : World) (e : Ext W0 w) : TL W0 [] [] (.slice none 0 0) w := ⟨e, rfl, World.ownsRow_nil _ _ _ _, fun j hj => absurd hj (by simp)⟩
theorem TL.ext' (h : TL W0 L svs v w) (e : Ext w w') : TL W0 L svs v w' := by
  have hk : ∀ {T sz m : Nat} {v : Value} {xs : List Value}, w.ownsRow W0.heap.size T sz v m xs → w'.ownsRow W0.heap.size T sz v m xs := fun {_ _ _ v _} ho => ho.kept (row := none) ⟨e.os, e.tape, e.output, e.size, fun k hk _ => e.block k hk⟩ (by cases v.ownBlock <;> simp)
  exact ⟨h.e.trans e, h.len, hk h.own, fun j hj => hk (h.rw j hj)⟩
theorem TL.push (h : TL W0 L svs v w) {sv : Value} {r : List (BitVec 64)} (hs : OU w W0.heap.size sv r) (ho : W1.ownsRow W0.heap.size 22 1 v' (svs.length + 1) (svs ++ [sv])) (g : w.grownBy W1 v.ownBlock) : TL W0 (L ++ [r]) (svs ++ [sv]) v' W1 := by
  have hr : ∀ k, v.ownBlock = some k → W0.heap.size ≤ k := fun k hk => (h.own.lt k hk).1
  have hk : ∀ {m : Nat} {u : Value} {xs : List Value}, w.ownsRow W0.heap.size 44 1 u m xs → W1.ownsRow W0.heap.size 44 1 u m xs := fun ho => ho.kept g (own_ne ho h.own (by decide))
  refine ⟨Below.grown h.e g h.e.size (fun k hk => hr k hk), by simp [h.len], by rw [List.length_append]; exact ho, fun j hj => ?_⟩
  by_cases hj2 : j < L.length
  · rw [nth_appL _ _ (by rw [h.len]; exact hj2), nth_appL _ _ hj2]; exact hk (h.rw j hj2)
  · have e : j = L.length := by simp at hj; omega
    subst e
    have e1 := nth_appR svs [sv] (k := 0) (by simp)
    have e2 := nth_appR L [r] (k := 0) (by simp)
    rw [Nat.add_zero, h.len] at e1
    rw [Nat.add_zero] at e2
    rw [e1, e2]; exact hk hs
theorem TL.rr (h : TL W0 L svs v w) (h1 : L.length ≤ 1000) (h2 : ∀ j, j < L.length → (nth L j).length ≤ 1000) : ∃ a c, v = .slice a L.length c ∧ RR w a L := by
  have hl := h.len
  obtain ⟨a, c, rfl⟩ : ∃ a c, v = .slice a L.length c := by
    rcases h.own.2 with ⟨rfl, h0⟩ | ⟨g, cap, cur, rfl, _⟩
    · exact ⟨none, 0, by rw [← hl, h0]⟩
    · exact ⟨some ⟨g, 0, none⟩, cap, by rw [hl]⟩
  exact ⟨a, c, rfl, RR_of_rows h.own hl h.rw (by omega) fun j hj => by have := h2 j hj; omega⟩
end
/-- The struct that Build fills: its sets, its rows. -/
structure BR (W0 : World) (bo : Nat) (len : Int) (V : List (BitVec 64)) (vv : Value) (L : List (List (BitVec 64))) (svs : List Value) (vr : Value) (w : World) : Prop where
  e : Ext W0 w
  lo : W0.heap.size ≤ bo
  out : OutAt w bo (.int .i64 len) vv vr
  ov : OU w W0.heap.size vv V
  ne : vv.ownBlock ≠ some bo
  rl : svs.length = L.length
  orr : w.ownsRow (bo + 1) 22 1 vr svs.length svs
  rw : ∀ j, j < L.length → OU w (bo + 1) (nth svs j) (nth L j)
section
variable {W0 w w' W1 : World} {bo : Nat} {len : Int} {V : List (BitVec 64)} {vv : Value} {L : List (List (BitVec 64))} {svs : List Value} {vr v' : Value}
theorem BR.ext' (h : BR W0 bo len V vv L svs vr w) (e : Ext w w') : BR W0 bo len V vv L svs vr w' := by
  have hk : ∀ {B T sz m : Nat} {v : Value} {xs : List Value}, w.ownsRow B T sz v m xs → w'.ownsRow B T sz v m xs := fun {_ _ _ _ v _} ho => ho.kept (row := none) ⟨e.os, e.tape, e.output, e.size, fun k hk _ => e.block k hk⟩ (by cases v.ownBlock <;> simp)
  exact ⟨h.e.trans e, h.lo, h.out.ext e, hk h.ov, h.ne, h.rl, hk h.orr, fun j hj => hk (h.rw j hj)⟩
theorem BR.outR (h : BR W0 bo len V vv L svs vr w) (g : w.grownBy W1 vr.ownBlock) : OutAt W1 bo (.int .i64 len) vv vr :=
  h.out.keep (g.block _ h.out.lt (fun e => by have := (h.orr.lt _ e.symm).1; omega))
theorem BR.push (h : BR W0 bo len V vv L svs vr w) {sv : Value} {r : List (BitVec 64)} (hs : OU w (bo + 1) sv r) (ho : W1.ownsRow (bo + 1) 22 1 v' (svs.length + 1) (svs ++ [sv])) (g : w.grownBy W1 vr.ownBlock) : BR W0 bo len V vv (L ++ [r]) (svs ++ [sv]) v' (W1.setCell ⟨bo, 2, none⟩ v') := by
  have hlo := h.lo
  have hr : ∀ k, vr.ownBlock = some k → bo + 1 ≤ k := fun k hk => (h.orr.lt k hk).1
  have hk1 : ∀ {B m : Nat} {u : Value} {xs : List Value}, w.ownsRow B 44 1 u m xs → W1.ownsRow B 44 1 u m xs := fun {B _ _ _} ho => ho.kept g (by
    refine own_ne (B := 0) (own_mono ho (Nat.zero_le _)) (own_mono h.orr (Nat.zero_le _)) (by decide))
  refine ⟨(Below.grown h.e g h.e.size (fun k hk => by have := hr k hk; omega)).setCell (by simpa using hlo) _, hlo, (h.outR g).set2 v', ownRow_set (hk1 h.ov) (.inr h.ne), h.ne, by simp [h.rl], ?_, fun j hj => ?_⟩
  · refine setOther ?_ (by omega)
    rw [List.length_append]; exact ho
  · by_cases hj2 : j < L.length
    · rw [nth_appL _ _ (by rw [h.rl]; exact hj2), nth_appL _ _ hj2]
      exact setOther (hk1 (h.rw j hj2)) (by omega)
    · have e : j = L.length := by simp at hj; omega
      subst e
      have e1 := nth_appR svs [sv] (k := 0) (by simp)
      have e2 := nth_appR L [r] (k := 0) (by simp)
      rw [Nat.add_zero, h.rl] at e1
      rw [Nat.add_zero] at e2
      rw [e1, e2]; exact setOther (hk1 hs) (by omega)
/-- What the struct holds is the model. -/
theorem BR.rm (h : BR W0 bo len V vv L svs vr w) (h1 : L.length ≤ 1000) (h2 : ∀ j, j < L.length → (nth L j).length ≤ 1000) (h3 : V.length ≤ 1000) : ∃ va vc ra rc, vv = .slice va V.length vc ∧ vr = .slice ra L.length rc ∧ RM w va ra ⟨len, V, L⟩ := by
  obtain ⟨va, vc, hv, hu⟩ := RU_of_OU h.ov (by omega)
  have hl := h.rl
  obtain ⟨a, c, hr⟩ : ∃ a c, vr = .slice a L.length c := by
    rcases h.orr.2 with ⟨rfl, h0⟩ | ⟨g, cap, cur, rfl, _⟩
    · exact ⟨none, 0, by rw [← hl, h0]⟩
    · exact ⟨some ⟨g, 0, none⟩, cap, by rw [hl]⟩
  refine ⟨va, vc, a, c, hv, hr, hu, ?_⟩
  have h4 := h.orr
  rw [hr] at h4
  exact RR_of_rows h4 hl h.rw (by show L.length ≤ _; omega) fun j hj => by have := h2 j hj; show (nth L j).length ≤ _; omega
end
/-- A model, a list of worlds and an error. -/
def RetBu (A : Mo) (l : List Int) (c : Int) (e : Ending) (w w' : World) : Prop := ∃ va ra la vc rc lc, e = .returned (.tuple #[.agg #[.int .i64 A.worlds, .slice va A.val.length vc, .slice ra A.rel.length rc], .slice la l.length lc, .int .i64 c]) ∧ RM w' va ra A ∧ RI w' la l ∧ Ext w w'
theorem RetBu.zero {w w' : World} (c : Int) (h : Ext w w') : RetBu ⟨0, [], []⟩ [] c (.returned (.tuple #[.agg #[.int .i64 0, .slice none 0 0, .slice none 0 0], .slice none 0 0, .int .i64 c])) w w' :=
  ⟨none, none, none, 0, 0, 0, rfl, ⟨RU.nil _ _, RR.nil _ _⟩, RI.nil _ _, h⟩
end Wt

/- Walks: wittingref22.limits, tables, alike, Few, Count. -/
namespace Wt
open Go Go.RowKit Go.Maps Go.Proofs Fm

theorem any_seen2 {seen : List (List (List Nd))} : (seen.any fun r => decide (16 < r.length)) = true ↔ ∃ l ∈ seen, 16 < l.length := by simp
/-- Too many agents or formulas? -/
def limE (seen : List (List (List Nd))) : Int := if 4 < seen.length ∨ ∃ l ∈ seen, 16 < l.length then 8 else 0
/-- Are observations few and small? -/
def fewS (seen : List (List (List Nd))) : Bool := decide (seen.length ≤ 6) && seen.all fun l => decide (l.length ≤ 20) && l.all fun f => decide (f.length ≤ 20)
end Wt

/- Walks: wittinglaw22.few. -/
namespace Wt
open Go Go.RowKit Go.Maps Go.Proofs Fm

/-- Are a law and observations small? -/
def few22 (n : Int) (f : List Nd) (seen : List (List (List Nd))) : Bool := decide (n ≤ 5) && (decide (f.length ≤ 30) && fewS seen)
end Wt

/- Walk: wittingref13.Same, of two models that read alike. -/
namespace Wt
open Go Go.RowKit Go.Maps Go.Proofs Fm

set_option maxRecDepth 20000 in
set_option maxHeartbeats 2000000 in
theorem sameM_any (M : Mo) (va ra vb rb : Option Addr) (vc rc vd rd : Nat) (w : World) (hm : RM w va ra M) (hn : RM w vb rb M) :
    Calls Tryz.prog 10 #[.agg #[.int .i64 M.worlds, .slice va M.val.length vc, .slice ra M.rel.length rc], .agg #[.int .i64 M.worlds, .slice vb M.val.length vd, .slice rb M.rel.length rd]] w fun e w' => e = .returned (.bool true) ∧ Ext w w' := by
  have hE0 : Ext w ((w.alloc (.cells #[.int .i64 M.worlds, .slice va M.val.length vc, .slice ra M.rel.length rc] 25)).alloc (.cells #[.int .i64 M.worlds, .slice vb M.val.length vd, .slice rb M.rel.length rd] 25)) := ((Ext.refl w).alloc _).alloc _
  have hb1 := (MoBox.new w M.worlds M.val M.rel va vc ra rc 25).ext ((Ext.refl _).alloc (.cells #[.int .i64 M.worlds, .slice vb M.val.length vd, .slice rb M.rel.length rd] 25))
  have hb2 := MoBox.new (w.alloc (.cells #[.int .i64 M.worlds, .slice va M.val.length vc, .slice ra M.rel.length rc] 25)) M.worlds M.val M.rel vb vd rb rd 25
  rw [show (w.alloc (.cells #[.int .i64 M.worlds, .slice va M.val.length vc, .slice ra M.rel.length rc] 25)).heap.size = w.heap.size + 1 by simp] at hb2
  have hm0 := hm.ext hE0
  have hn0 := hn.ext hE0
  have HE := Lib.hid hE0
  have hww : (M.worlds != M.worlds) = false := by simp
  have hrl := hm.rel.len
  clear hm hn hE0
  go_enter Tryz.func10, Tryz.ntmps10
  go_wp2_with fail
  generalize (w.alloc (.cells #[.int .i64 M.worlds, .slice va M.val.length vc, .slice ra M.rel.length rc] 25)).alloc (.cells #[.int .i64 M.worlds, .slice vb M.val.length vd, .slice rb M.rel.length rd] 25) = W0 at *
  obtain ⟨m0, m1, m2⟩ := hb1
  obtain ⟨n0, n1, n2⟩ := hb2
  dsimp only at m0 m1 m2 n0 n1 n2
  refine (r13Same_any va vb vc vd M.val M.val _ hm0.val hn0.val).mono ?_
  rintro _ w1 ⟨rfl, hQ⟩
  rw [decide_eq_true (rfl : M.val = M.val)]
  dsimp only
  have hX1 := hQ.ext
  have p0 := hX1.cell m0
  have p1 := hX1.cell m1
  have p2 := hX1.cell m2
  have q0 := hX1.cell n0
  have q1 := hX1.cell n1
  have q2 := hX1.cell n2
  have hm1 := Lib.hid (hm0.ext hX1)
  have hn1 := Lib.hid (hn0.ext hX1)
  have HX1 := Lib.hid hX1
  clear m0 m1 m2 n0 n1 n2 hQ hX1 hm0 hn0
  go_wp2_with fail
  go_loopw [5] (fun i wr => ∃ k : Nat, k ≤ M.rel.length ∧ i = .int .i64 (k : Int) ∧ Ext w1 wr) (fun i _ => M.rel.length - (intOf i).toNat)
  case atStart => exact ⟨0, Nat.zero_le _, rfl, Ext.refl _⟩
  case round =>
    obtain ⟨k, hk, rfl, hE⟩ := hrel
    have m0 := hE.cell p0
    have m1 := hE.cell p1
    have m2 := hE.cell p2
    have n0 := hE.cell q0
    have n1 := hE.cell q1
    have n2 := hE.cell q2
    by_cases hlt : k < M.rel.length
    · obtain ⟨b1, o1, a1, c1, rfl, hb1, hc1, hu1⟩ := (hm1.out.rel.ext hE).get hlt
      obtain ⟨b2, o2, a2, c2, rfl, hb2, hc2, hu2⟩ := (hn1.out.rel.ext hE).get hlt
      have hul := hu1.len
      have HD : Hid (∀ w', Ext wr w' → Calls Tryz.prog 18 #[.slice a1 (nth M.rel k).length c1, .slice a2 (nth M.rel k).length c2] w' fun e w'' => e = .returned (.bool true) ∧ Qu w' w'') := Lib.hid fun w' e => by
        have := r13Same_any a1 a2 c1 c2 (nth M.rel k) (nth M.rel k) w' (hu1.ext e) (hu2.ext e)
        rw [decide_eq_true (rfl : nth M.rel k = nth M.rel k)] at this
        exact this
      have HEr := Lib.hid hE
      clear hu1 hu2 hE p0 p1 p2 q0 q1 q2
      go_wp2_with fail
      go_quiet ((go_at_call 18; exact Calls.quiet_of (HD.out _ ((Ext.refl _).drewN _))))
      go_wp2
      go_roundw
      case rel => exact ⟨k + 1, hlt, by go_num, HEr.out.drewN _⟩
      case measure => simp [intOf]; omega
    · have HEr := Lib.hid hE
      clear hE p0 p1 p2 q0 q1 q2
      go_wp2
      go_ret
      exact ⟨rfl, HE.out.trans (HX1.out.trans HEr.out)⟩
end Wt

/- Plain laws of observations: what agents know together; what a group learns; a product's parts. -/
namespace Wt
open Go Go.RowKit Go.Proofs Fm

theorem bt_meetRow (R : List (List (BitVec 64))) (G k N : Nat) {y : Nat} (hy : y < N) (h64 : y < 64) : ∀ q, bt (gRow (jOf true) (zOf true N) R G k q) y = allQ (fun q => !G.testBit q || bt (nth (nth R q) k) y) q
  | 0 => by
    show bt (allW N) y = true
    rw [bt_allW]; simp [hy, h64]
  | q + 1 => by
    have ih := bt_meetRow R G k N hy h64 q
    unfold allQ
    cases hg : G.testBit q
    · rw [gRow_no hg, ih]; simp
    · rw [gRow_yes hg]
      show bt (_ &&& _) y = _
      rw [bt_and, ih]; simp
theorem bt_joinRow (R : List (List (BitVec 64))) (G k N : Nat) {y : Nat} : ∀ q, bt (gRow (jOf false) (zOf false N) R G k q) y = true ↔ ∃ a, a < q ∧ G.testBit a = true ∧ bt (nth (nth R a) k) y = true
  | 0 => by
    show bt 0#64 y = true ↔ _
    rw [bt_zero]; simp
  | q + 1 => by
    have ih := bt_joinRow R G k N (y := y) q
    cases hg : G.testBit q
    · rw [gRow_no hg, ih]
      constructor
      · rintro ⟨a, h1, h2⟩
        exact ⟨a, by omega, h2⟩
      · rintro ⟨a, h1, h2, h3⟩
        rcases Nat.lt_or_ge a q with h | h
        · exact ⟨a, h, h2, h3⟩
        · obtain rfl : a = q := by omega
          rw [hg] at h2; cases h2
    · rw [gRow_yes hg]
      show bt (_ ||| _) y = true ↔ _
      rw [bt_or, Bool.or_eq_true, ih]
      constructor
      · rintro (⟨a, h1, h2⟩ | h)
        · exact ⟨a, by omega, h2⟩
        · exact ⟨q, by omega, hg, h⟩
      · rintro ⟨a, h1, h2, h3⟩
        rcases Nat.lt_or_ge a q with h | h
        · exact .inl ⟨a, h, h2, h3⟩
        · obtain rfl : a = q := by omega
          exact .inr h3
theorem mem_pool (seen : List (List (List Nd))) (g : Nat) (f : List Nd) : ∀ k, f ∈ poolTo seen g k ↔ ∃ a, a < k ∧ g.testBit a = true ∧ f ∈ nth seen a
  | 0 => by simp [poolTo]
  | k + 1 => by
    unfold poolTo
    rw [List.mem_append, mem_pool seen g f k]
    cases hg : g.testBit k
    · constructor
      · rintro (⟨a, h1, h2⟩ | h)
        · exact ⟨a, by omega, h2⟩
        · simp at h
      · rintro ⟨a, h1, h2, h3⟩
        rcases Nat.lt_or_ge a k with h | h
        · exact .inl ⟨a, h, h2, h3⟩
        · obtain rfl : a = k := by omega
          rw [hg] at h2; cases h2
    · constructor
      · rintro (⟨a, h1, h2⟩ | h)
        · exact ⟨a, by omega, h2⟩
        · exact ⟨k, by omega, hg, by simpa using h⟩
      · rintro ⟨a, h1, h2, h3⟩
        rcases Nat.lt_or_ge a k with h | h
        · exact .inl ⟨a, h, h2, h3⟩
        · obtain rfl : a = k := by omega
          exact .inr (by simpa using h3)
theorem pool_ob {n : Int} {law : List Nd} {seen : List (List (List Nd))} (h : obErr n law seen = 0) {g : Nat} (h16 : (poolTo seen g seen.length).length ≤ 16) : obErr n law [poolTo seen g seen.length] = 0 := by
  have ok := obErr_ok h
  have ht : ∀ f ∈ poolTo seen g seen.length, tabErr f n = 0 := fun f hf => by
    obtain ⟨a, h1, _, h3⟩ := (mem_pool seen g f _).1 hf
    exact ok.sn _ (nth_mem h1) f h3
  have hz : ∀ l : List (List Nd), (∀ f ∈ l, tabErr f n = 0) → tabsErr n l = 0 := by
    intro l
    induction l with
    | nil => intro _; rfl
    | cons x l ih =>
      intro hl
      unfold tabsErr
      rw [if_neg (by simp [hl x (by simp)])]
      exact ih fun f hf => hl f (by simp [hf])
  unfold obErr
  rw [if_neg (by simp; omega), if_neg (by simp [ok.lw])]
  have hs : seenErr n [poolTo seen g seen.length] = 0 := by
    unfold seenErr
    rw [if_neg (by simp [hz _ ht])]; rfl
  rw [if_neg (by simp [hs]), if_neg ok.some]
theorem ob_obS {n : Int} {law : List Nd} {seen seen' : List (List (List Nd))} (h : obErr n law seen = 0) (h' : obErr n law seen' = 0) : obS n law seen = obS n law seen' := by
  have e : obS n law seen = memL (tabOf law n) := if_pos h
  have e' : obS n law seen' = memL (tabOf law n) := if_pos h'
  rw [e, e']
/-- What the agents know together is what one agent knows that observes everything that they observe. -/
theorem together_law {n : Int} {law : List Nd} {seen : List (List (List Nd))} (h : obErr n law seen = 0) {G : Nat} (h1 : 1 ≤ G) (h2 : (G : Int) < p2 seen.length) (h16 : (poolTo seen G seen.length).length ≤ 16) {t : Fm} {s : BitVec 64}
    (hs : semT (obM n law seen) t = (s, true)) (hs' : semT (obM n law [poolTo seen G seen.length]) t = (s, true)) :
    semT (obM n law seen) (.un 12 0 0 (G : Int) t) = semT (obM n law [poolTo seen G seen.length]) (.un 9 0 0 0 t) ∧ (semT (obM n law seen) (.un 12 0 0 (G : Int) t)).2 = true := by
  have h' := pool_ob h h16
  have ok := ob_ok h
  have hrl := ob_rel h
  have hrl' := ob_rel h'
  have e : meetOf (obM n law seen) G = nth (obM n law [poolTo seen G seen.length]).rel 0 := by
    have hm := meet_in ok h1 (by rw [hrl]; exact h2)
    have hr := ob_row h' (a := 0) (by simp)
    have hS := ob_obS h h'
    rw [hr, ← hS]
    refine nth_ext (by rw [hm.1, cellR_len]) fun k hk => ?_
    rw [hm.1] at hk
    have hsub := hm.2 k hk
    refine bt_ext fun y hy => ?_
    by_cases hyN : y < (obS n law seen).length
    · rw [meet_row ok h1 (by rw [hrl]; exact h2) hk, bt_meetRow _ _ _ _ hyN hy, bt_cell _ (ob_len h).1 hk hyN, Bool.eq_iff_iff, allQ_iff, alikeT_of]
      constructor
      · intro hq t ht
        obtain ⟨f, hf, rfl⟩ := List.mem_map.1 ht
        have hf : f ∈ poolTo seen G seen.length := hf
        obtain ⟨a, a1, a2, a3⟩ := (mem_pool seen G f _).1 hf
        have := hq a (by rw [hrl]; exact a1)
        rw [a2, ob_row h a1, bt_cell _ (ob_len h).1 hk hyN] at this
        exact alikeT_of.1 (by simpa using this) _ (List.mem_map.2 ⟨f, a3, rfl⟩)
      · intro hq a ha
        rw [hrl] at ha
        cases hg : G.testBit a
        · rfl
        · rw [ob_row h ha, bt_cell _ (ob_len h).1 hk hyN]
          show alikeT _ _ _ = true
          refine alikeT_of.2 fun t ht => ?_
          obtain ⟨f, hf, rfl⟩ := List.mem_map.1 ht
          refine hq _ (List.mem_map.2 ⟨f, ?_, rfl⟩)
          exact (mem_pool seen G f _).2 ⟨a, ha, hg, hf⟩
    · have e1 : bt (nth (meetOf (obM n law seen) G) k) y = false := by
        cases hb : bt (nth (meetOf (obM n law seen) G) k) y
        · rfl
        · have := hsub y hy hb
          rw [bt_allW] at this; simp at this; omega
      rw [e1, cellR_nth _ hk, bt_setTo _ hy]; simp [hyN]
  have hng : ¬ (p2 (obM n law seen).rel.length ≤ (G : Int)) := by rw [hrl]; omega
  have hng2 : ¬ (((obM n law [poolTo seen G seen.length]).rel.length : Int) ≤ 0) := by rw [hrl']; simp
  have a1 : semT (obM n law seen) (.un 12 0 0 (G : Int) t) = (relBox (meetOf (obM n law seen) G) s, true) := by
    rw [semT_un _ _ _ _ (by rw [hs]), hs]; simp [valN, hng]
  have a2 : semT (obM n law [poolTo seen G seen.length]) (.un 9 0 0 0 t) = (relBox (nth (obM n law [poolTo seen G seen.length]).rel 0) s, true) := by
    rw [semT_un _ _ _ _ (by rw [hs']), hs']
    unfold valN
    simp only [show ¬ ((9 : Int) = 1) by omega, show ¬ ((9 : Int) = 2) by omega, show ¬ ((9 : Int) = 3) by omega, show ¬ ((9 : Int) = 4) by omega, show ¬ ((9 : Int) = 5) by omega, show ¬ ((9 : Int) = 6) by omega, show ¬ ((9 : Int) = 7) by omega, show ¬ ((9 : Int) = 8) by omega, if_false, if_true, hng2]
    rfl
  rw [a1, a2, e]; exact ⟨rfl, rfl⟩
/-- A propositional formula's set hangs on the facts alone. -/
theorem sem_same {A B : Mo} (hw : A.worlds = B.worlds) (hv : A.val = B.val) : ∀ t, propT t → semT A t = semT B t := by
  have key : ∀ (o i g : Int) (x y : BitVec 64), o ≤ 8 → valN A o i g x y = valN B o i g x y := by
    intro o i g x y ho
    unfold valN
    rw [hw, hv, if_neg (show ¬ o = 9 by omega), if_neg (show ¬ o = 9 by omega), if_neg (show ¬ o = 10 by omega), if_neg (show ¬ o = 10 by omega), if_neg (show ¬ o = 11 by omega), if_neg (show ¬ o = 11 by omega), if_neg (show ¬ o = 12 by omega), if_neg (show ¬ o = 12 by omega), if_neg (show ¬ o = 13 by omega), if_neg (show ¬ o = 13 by omega)]
  intro t
  induction t with
  | leaf o i e g => intro h; exact key o i g _ _ h
  | un o i e g x ih => intro h; simp only [semT]; rw [ih h.2, key _ _ _ _ _ h.1]
  | bin o i e g x y ih1 ih2 => intro h; simp only [semT]; rw [ih1 h.2.1, ih2 h.2.2, key _ _ _ _ _ h.1]
theorem revErr_ok {M : Mo} {g : Int} {f : List Nd} (h : revErr M g f = 0) : reqErr M f = 0 ∧ 1 ≤ g ∧ g < p2 M.rel.length := by
  unfold revErr at h
  by_cases h1 : reqErr M f = 0
  · rw [if_neg (by simp [h1])] at h
    by_cases h2 : g < 1 ∨ p2 M.rel.length ≤ g
    · rw [if_pos h2] at h; omega
    · exact ⟨h1, by omega, by omega⟩
  · rw [if_pos h1] at h; exact absurd h h1
theorem whRow_len (s : BitVec 64) (r : List (BitVec 64)) : (whRow s r).length = r.length := by simp [whRow]
theorem whRow_at (s : BitVec 64) (r : List (BitVec 64)) {w : Nat} (h : w < r.length) : nth (whRow s r) w = if bt s w then nth r w &&& s else nth r w &&& ~~~ s := by
  unfold whRow
  rw [nth_mapN _ _ (by simpa using h), nth_range h]
theorem bt_whRow (s : BitVec 64) (r : List (BitVec 64)) {w y : Nat} (h : w < r.length) (hy : y < 64) : bt (nth (whRow s r) w) y = (bt (nth r w) y && (bt s y == bt s w)) := by
  rw [whRow_at _ _ h]
  cases hs : bt s w
  · rw [if_neg (by simp), bt_and, bt_not]; simp [hy]
  · rw [if_pos rfl, bt_and]; simp
theorem rev_ok {M : Mo} {N : Nat} (ok : MoOk M N) {g : Int} {f : List Nd} (h : revErr M g f = 0) : MoOk (revM M g f) N ∧ revM M g f = ⟨M.worlds, M.val, (List.range M.rel.length).map (revR M g.toNat (holdsOf M f))⟩ := by
  have e : revM M g f = ⟨M.worlds, M.val, (List.range M.rel.length).map (revR M g.toNat (holdsOf M f))⟩ := if_pos h
  refine ⟨?_, e⟩
  rw [e]
  refine ⟨ok.worlds, ok.one, ok.most, by simpa using ok.rel, ok.val, ?_, ok.valIn, ?_⟩
  · intro r hr
    obtain ⟨a, ha, rfl⟩ := List.mem_map.1 hr
    have ha : a < M.rel.length := by simpa using ha
    have := ok.row _ (nth_mem ha)
    unfold revR
    split
    · rw [whRow_len]; exact this
    · exact this
  · intro r hr s hs
    obtain ⟨a, ha, rfl⟩ := List.mem_map.1 hr
    have ha : a < M.rel.length := by simpa using ha
    have hl := ok.row _ (nth_mem ha)
    unfold revR at hs
    split at hs
    · obtain ⟨k, hk, rfl⟩ := mem_nth hs
      rw [whRow_len] at hk
      refine andNot_zero.2 fun y hy hb => ?_
      rw [bt_whRow _ _ hk hy] at hb
      simp at hb
      exact andNot_zero.1 (ok.relIn _ (nth_mem ha) _ (nth_mem hk)) y hy hb.1
    · exact ok.relIn _ (nth_mem ha) _ hs
theorem rev_row {M : Mo} {g : Int} {f : List Nd} (h : revErr M g f = 0) {a : Nat} (ha : a < M.rel.length) : nth (revM M g f).rel a = revR M g.toNat (holdsOf M f) a := by
  have e : revM M g f = ⟨M.worlds, M.val, (List.range M.rel.length).map (revR M g.toNat (holdsOf M f))⟩ := if_pos h
  rw [e]
  show nth ((List.range M.rel.length).map _) a = _
  rw [nth_mapN _ _ (by simpa using ha), nth_range ha]
/-- An agent of the group knows whether the revealed propositional formula holds. -/
theorem rev_knows {M : Mo} {N : Nat} (ok : MoOk M N) {g : Int} {f : List Nd} (h : revErr M g f = 0) (hp : fFrags f = 0) {a : Nat} (ha : a < M.rel.length) (hg : g.toNat.testBit a = true) :
    semT (revM M g f) (.bin 6 0 0 0 (.un 9 (a : Int) 0 0 (rt f)) (.un 9 (a : Int) 0 0 (.un 4 0 0 0 (rt f)))) = (allW N, true) := by
  obtain ⟨ok2, e⟩ := rev_ok ok h
  obtain ⟨hq, _, _⟩ := revErr_ok h
  have hc := (reqErr_ok hq).2.1
  obtain ⟨s1, s2⟩ := set_sem ok.check (IsF.of hc)
  rw [hq] at s1
  have hsem : semT (revM M g f) (rt f) = (holdsOf M f, true) := by
    rw [sem_same (A := revM M g f) (B := M) (by rw [e]) (by rw [e]) _ (prop_frags hc hp), s2]
    exact Prod.ext_iff.2 ⟨rfl, s1.symm⟩
  have har : a < (revM M g f).rel.length := by rw [e]; simpa using ha
  refine know_whether ok2 har hsem (holds_in ok f) fun x hx y hy hb => ?_
  rw [rev_row h ha] at hb
  unfold revR at hb
  rw [if_pos hg, bt_whRow _ _ (by rw [ok.row _ (nth_mem ha)]; exact hx) (by have := ok.most; omega)] at hb
  simp at hb
  exact hb.2
/-- Is a relation an equivalence? -/
def eqvB (r : List (BitVec 64)) : Bool := allQ (fun x => bt (nth r x) x && allQ (fun y => !bt (nth r x) y || (nth r x == nth r y)) r.length) r.length
theorem eqvB_iff {r : List (BitVec 64)} : eqvB r = true ↔ ∀ x, x < r.length → bt (nth r x) x = true ∧ ∀ y, y < r.length → bt (nth r x) y = true → nth r x = nth r y := by
  unfold eqvB
  rw [allQ_iff]
  refine forall_congr' fun x => forall_congr' fun hx => ?_
  rw [Bool.and_eq_true, allQ_iff]
  refine and_congr_right fun _ => forall_congr' fun y => forall_congr' fun hy => ?_
  cases bt (nth r x) y <;> simp
theorem eqv_whRow {r : List (BitVec 64)} (h64 : r.length ≤ 64) (s : BitVec 64) (h : eqvB r = true) : eqvB (whRow s r) = true := by
  rw [eqvB_iff] at h ⊢
  rw [whRow_len]
  intro x hx
  obtain ⟨h1, h2⟩ := h x hx
  refine ⟨by rw [bt_whRow _ _ hx (by omega), h1]; simp, fun y hy hb => ?_⟩
  rw [bt_whRow _ _ hx (by omega)] at hb
  simp at hb
  obtain ⟨b1, b2⟩ := hb
  have e := h2 y hy b1
  rw [whRow_at _ _ hx, whRow_at _ _ hy, e, b2]
theorem rev_eqv {M : Mo} {N : Nat} (ok : MoOk M N) {g : Int} {f : List Nd} (h : revErr M g f = 0) {a : Nat} (ha : a < M.rel.length) (he : eqvB (nth M.rel a) = true) : eqvB (nth (revM M g f).rel a) = true := by
  rw [rev_row h ha]
  unfold revR
  split
  · exact eqv_whRow (by rw [ok.row _ (nth_mem ha)]; exact ok.most) _ he
  · exact he
end Wt

/- Plain laws of observations: formulas about the first one of two models side by side. -/
namespace Wt
open Go Go.RowKit Go.Proofs Fm

/-- Worlds of one relation lie over worlds of another one, and so do its arrows, which lift. -/
structure Bmo (r r' : List (BitVec 64)) (N : Nat) (ws : List Nat) : Prop where
  len : r.length = N
  len' : r'.length = ws.length
  inN : ∀ v, v < N → Sub (nth r v) (allW N)
  inW : ∀ v, v < ws.length → Sub (nth r' v) (allW ws.length)
  fwd : ∀ i j, i < ws.length → j < ws.length → bt (nth r' i) j = true → bt (nth r (nth ws i)) (nth ws j) = true
  bck : ∀ i u, i < ws.length → bt (nth r (nth ws i)) u = true → ∃ j, j < ws.length ∧ nth ws j = u ∧ bt (nth r' i) j = true
section
variable {N : Nat} {ws : List Nat} (h64 : N ≤ 64) (hl : ws.length ≤ 64) (hlt : ∀ i, i < ws.length → nth ws i < N)
include h64 hl hlt
theorem box_bmo {r r' : List (BitVec 64)} (hA : Bmo r r' N ws) {x' x : BitVec 64} (h : Agr ws x' x) : Agr ws (relBox r' x') (relBox r x) := fun i hi => by
  have hi64 : i < 64 := by omega
  have hwi := hlt i hi
  rw [bt_relBox _ _ _ hi64, bt_relBox _ _ _ (by omega), hA.len, hA.len', rel_ok hA.len h64 hA.inN, rel_ok hA.len' hl hA.inW]
  have e : (nth r' i &&& ~~~ x' == 0#64) = (nth r (nth ws i) &&& ~~~ x == 0#64) := by
    rw [Bool.eq_iff_iff, sub_bool, sub_bool]
    constructor
    · intro h2 u hu hb
      obtain ⟨j, hj, rfl, hb'⟩ := hA.bck i u hi hb
      have h3 := h2 j (by omega) hb'
      rw [h j hj] at h3; exact h3
    · intro h2 j hj hb
      have hjw : j < ws.length := by have := hA.inW i hi j hj hb; rw [bt_allW] at this; simp at this; exact this.2
      rw [h j hjw]
      exact h2 _ (by have := hlt j hjw; omega) (hA.fwd i j hi hjw hb)
  rw [e]; simp [hi, hwi]
theorem cmnI_bmo {r r' : List (BitVec 64)} (hA : Bmo r r' N ws) {c' c s' s : BitVec 64} (hc : Agr ws c' c) (hs : Agr ws s' s) : ∀ k, Agr ws (cmnI r' ws.length c' s' k) (cmnI r N c s k)
  | 0 => all_agr h64 hl hlt
  | k + 1 => box_bmo h64 hl hlt hA (or_agr (not_agr h64 hl hlt hc) (and_agr hs (cmnI_bmo hA hc hs k)))
theorem cmn_bmo (hN : N ≤ ws.length) {r r' : List (BitVec 64)} (hA : Bmo r r' N ws) {c' c s' s : BitVec 64} (hc : Agr ws c' c) (hs : Agr ws s' s) : Agr ws (cmn r' ws.length c' s') (cmn r N c s) := by
  have hfix := cmnI_fix r N (by rw [hA.len]; exact Nat.le_refl _) c s
  have hk := cmnI_const r N c s N hfix (ws.length - N)
  rw [show N + (ws.length - N) = ws.length by omega] at hk
  unfold cmn
  rw [← hk]
  exact cmnI_bmo h64 hl hlt hA hc hs ws.length
end
/-- A model that lies over another one. -/
structure Bmod (A M : Mo) (N : Nat) (ws : List Nat) : Prop where
  okA : MoOk A N
  okM : MoOk M ws.length
  lt : ∀ i, i < ws.length → nth ws i < N
  le : N ≤ ws.length
  rel : M.rel.length = A.rel.length
  val : A.val.length ≤ M.val.length
  fact : ∀ k, k < A.val.length → Agr ws (nth M.val k) (nth A.val k)
  agent : ∀ q, q < A.rel.length → Bmo (nth A.rel q) (nth M.rel q) N ws
  group : ∀ G : Nat, 1 ≤ G → (G : Int) < p2 A.rel.length → Bmo (groupOf A G) (groupOf M G) N ws
  meet : ∀ G : Nat, 1 ≤ G → (G : Int) < p2 A.rel.length → Bmo (meetOf A G) (meetOf M G) N ws
/-- If the one answers, the other one does, and the answers agree. -/
def AgrI (ws : List Nat) (p' p : BitVec 64 × Bool) : Prop := p.2 = true → p'.2 = true ∧ Agr ws p'.1 p.1
theorem agrI_ite {ws : List Nat} {c : Prop} [Decidable c] {a' a b' b : BitVec 64 × Bool} (h1 : c → AgrI ws a' a) (h2 : ¬ c → AgrI ws b' b) : AgrI ws (if c then a' else b') (if c then a else b) := by
  by_cases hc : c
  · rw [if_pos hc, if_pos hc]; exact h1 hc
  · rw [if_neg hc, if_neg hc]; exact h2 hc
theorem agrI_no {ws : List Nat} {p' : BitVec 64 × Bool} {x : BitVec 64} : AgrI ws p' (x, false) := fun h => by cases h
theorem agrI_yes {ws : List Nat} {x' x : BitVec 64} (h : Agr ws x' x) : AgrI ws (x', true) (x, true) := fun _ => ⟨rfl, h⟩
theorem AgrP.imp {ws : List Nat} {p' p : BitVec 64 × Bool} (h : AgrP ws p' p) : AgrI ws p' p := fun e => ⟨by rw [h.1]; exact e, h.2⟩
section
variable {A M : Mo} {N : Nat} {ws : List Nat} (h : Bmod A M N ws)
include h
theorem dia_bmo {q : Nat} (hq : q < A.rel.length) {x' x : BitVec 64} (hx : Agr ws x' x) : Agr ws (relDia (nth M.rel q) x') (relDia (nth A.rel q) x) := by
  rw [← dual_law h.okA hq, ← dual_law h.okM (by rw [h.rel]; exact hq)]
  exact not_agr h.okA.most h.okM.most h.lt (box_bmo h.okA.most h.okM.most h.lt (h.agent q hq) (not_agr h.okA.most h.okM.most h.lt hx))
theorem valN_bmo (o i g : Int) (h0 : o = 3 → 0 ≤ i) {x' x y' y : BitVec 64} (hx : Agr ws x' x) (hy : Agr ws y' y) : AgrI ws (valN M o i g x' y') (valN A o i g x y) := by
  have hA : M.worlds.toNat = ws.length := by rw [h.okM.worlds]; exact Int.toNat_natCast _
  have hM : A.worlds.toNat = N := by rw [h.okA.worlds]; exact Int.toNat_natCast N
  have hr := h.rel
  have h64 := h.okA.most
  have hl := h.okM.most
  have all := all_agr h64 hl h.lt
  have nt : ∀ {a' a : BitVec 64}, Agr ws a' a → Agr ws (allW ws.length &&& ~~~ a') (allW N &&& ~~~ a) := fun ha => not_agr h64 hl h.lt ha
  have bx : ∀ {r r' : List (BitVec 64)}, Bmo r r' N ws → ∀ {a' a : BitVec 64}, Agr ws a' a → Agr ws (relBox r' a') (relBox r a) := by
    intro r r' hr a' a ha
    exact box_bmo h64 hl h.lt hr ha
  have grp : ∀ {j : BitVec 64 → BitVec 64 → BitVec 64}, (∀ G : Nat, 1 ≤ G → (G : Int) < p2 A.rel.length → Bmo (gather j A G) (gather j M G) N ws) → ¬ p2 A.rel.length ≤ g → Agr ws (relBox (gather j M g) x') (relBox (gather j A g) x) := by
    intro j hj hg
    by_cases hg1 : g < 1
    · rw [gather_no j hg1, gather_no j hg1, relBox_nil, relBox_nil]; exact zero_agr ws
    · obtain ⟨G, rfl⟩ := Int.eq_ofNat_of_zero_le (show 0 ≤ g by omega)
      exact bx (hj G (by omega) (by omega)) hx
  unfold valN
  rw [hA, hM, hr]
  refine agrI_ite (fun _ => agrI_yes all) fun _ => agrI_ite (fun _ => (zero_agrP ws true).imp) fun _ => agrI_ite (fun e3 => ?_) fun _ => agrI_ite (fun _ => agrI_yes (nt hx)) fun _ => agrI_ite (fun _ => agrI_yes (and_agr hx hy)) fun _ => agrI_ite (fun _ => agrI_yes (or_agr hx hy)) fun _ => agrI_ite (fun _ => agrI_yes (or_agr (nt hx) hy)) fun _ => agrI_ite (fun _ => agrI_yes (nt (xor_agr hx hy))) fun _ => agrI_ite (fun _ => agrI_ite (fun _ => agrI_no) fun hi => agrI_yes ?_) fun _ => agrI_ite (fun _ => agrI_ite (fun _ => agrI_no) fun hi => agrI_yes ?_) fun _ => agrI_ite (fun _ => agrI_ite (fun _ => agrI_no) fun hg => agrI_yes (grp h.group hg)) fun _ => agrI_ite (fun _ => agrI_ite (fun _ => agrI_no) fun hg => agrI_yes (grp h.meet hg)) fun _ => agrI_ite (fun _ => agrI_ite (fun _ => agrI_no) fun hg => agrI_yes ?_) fun _ => agrI_no
  · have hi0 := h0 e3
    by_cases hi : (A.val.length : Int) ≤ i
    · rw [if_pos hi]; exact agrI_no
    · have := h.val
      rw [if_neg hi, if_neg (by omega)]
      exact agrI_yes (h.fact i.toNat (by omega))
  · by_cases hk : i.toNat < A.rel.length
    · exact bx (h.agent _ hk) hx
    · rw [nth_out (by rw [hr]; omega), nth_out (by omega), show (default : List (BitVec 64)) = [] from rfl, relBox_nil, relBox_nil]; exact zero_agr ws
  · by_cases hk : i.toNat < A.rel.length
    · exact dia_bmo h hk hx
    · rw [nth_out (by rw [hr]; omega), nth_out (by omega), show (default : List (BitVec 64)) = [] from rfl, relDia_nil, relDia_nil]; exact zero_agr ws
  · by_cases hg1 : g < 1
    · have e1 : groupOf M g = [] := gather_no _ hg1
      have e2 : groupOf A g = [] := gather_no _ hg1
      rw [e1, e2, cmn_nil h.okM.one, cmn_nil h.okA.one]; exact zero_agr ws
    · obtain ⟨G, rfl⟩ := Int.eq_ofNat_of_zero_le (show 0 ≤ g by omega)
      exact cmn_bmo h64 hl h.lt h.le (h.group G (by omega) (by omega)) hx hy
end
theorem wide_fact {o i e g : Int} (h : wide (useOf o).1 ⟨o, i, e, g, 0, 0⟩ = false) (h3 : o = 3) : 0 ≤ i := by
  subst h3
  have e1 : (useOf 3).1 = ⟨false, false, true, false, false, false, 0⟩ := by decide
  rw [e1] at h
  simp [wide, outs] at h
  exact h.1
/-- The sets of a tree agree. -/
theorem sem_bmo {A M : Mo} {N : Nat} {ws : List Nat} (h : Bmod A M N ws) : ∀ t, fok t → AgrI ws (semT M t) (semT A t)
  | .leaf o i e g => fun hk => valN_bmo h o i g (wide_fact hk.2.2.2) (zero_agr ws) (zero_agr ws)
  | .un o i e g x => fun hk e2 => by
    have ih := sem_bmo h x hk.2.2.2.2.2
    simp only [semT] at e2 ⊢
    by_cases hx : (semT A x).2 = true
    · obtain ⟨i1, i2⟩ := ih hx
      rw [if_pos hx] at e2 ⊢
      rw [if_pos i1]
      exact valN_bmo h o i g (wide_fact hk.2.2.2.2.1) i2 (zero_agr ws) e2
    · rw [if_neg hx] at e2; cases e2
  | .bin o i e g x y => fun hk e2 => by
    have ih := sem_bmo h x hk.2.2.2.2.1
    have ih2 := sem_bmo h y hk.2.2.2.2.2
    simp only [semT] at e2 ⊢
    by_cases hx : ((semT A x).2 && (semT A y).2) = true
    · have hx' := hx
      rw [Bool.and_eq_true] at hx'
      obtain ⟨i1, i2⟩ := ih hx'.1
      obtain ⟨j1, j2⟩ := ih2 hx'.2
      rw [if_pos hx] at e2 ⊢
      rw [if_pos (by rw [i1, j1]; rfl)]
      exact valN_bmo h o i g (wide_fact hk.2.2.2.1) i2 j2 e2
    · rw [if_neg hx] at e2; cases e2
theorem nth_append_left {α : Type} [Inhabited α] {l m : List α} {k : Nat} (h : k < l.length) : nth (l ++ m) k = nth l k := by
  rw [nth_eq _ _ h, nth_eq _ _ (by rw [List.length_append]; omega), List.getElem_append_left h]
/-! The product. -/
theorem prErr_ok {A B : Mo} (h : prErr A B = 0) : ∃ N m, MoOk A N ∧ MoOk B m ∧ A.rel.length = B.rel.length ∧ N * m ≤ 64 ∧ A.val.length + B.val.length ≤ 8 := by
  unfold prErr at h
  by_cases h1 : moCheck A = 0
  · rw [if_neg (by simp [h1])] at h
    by_cases h2 : moCheck B = 0
    · rw [if_neg (by simp [h2])] at h
      by_cases h3 : A.rel.length = B.rel.length
      · rw [if_neg (by simp [h3])] at h
        by_cases h4 : 64 < A.worlds * B.worlds ∨ 8 < A.val.length + B.val.length
        · rw [if_pos h4] at h; omega
        · obtain ⟨N, okA⟩ := moCheck_ok h1
          obtain ⟨m, okB⟩ := moCheck_ok h2
          refine ⟨N, m, okA, okB, h3, ?_, by omega⟩
          have e : A.worlds * B.worlds = ((N * m : Nat) : Int) := by rw [okA.worlds, okB.worlds]; simp
          omega
      · rw [if_pos h3] at h; omega
    · rw [if_pos h2] at h; exact absurd h h2
  · rw [if_pos h1] at h; exact absurd h h1
theorem pairL_len (n m : Nat) : (pairL n m).length = n * m := by simp [pairL]
theorem pairL_nth {n m i : Nat} (h : i < n * m) : nth (pairL n m) i = (i / m, i % m) := by
  unfold pairL; rw [nth_mapN _ _ (by simpa using h), nth_range h]
theorem bt_both {l : List (Nat × Nat)} (s t : BitVec 64) {j : Nat} (h : j < 64) : bt (bothS l s t) j = (decide (j < l.length) && (bt s (nth l j).1 && bt t (nth l j).2)) := bt_setTo _ h _
section
variable {A B : Mo} {N m : Nat} (okA : MoOk A N) (okB : MoOk B m) (h : prErr A B = 0)
include okA okB h
theorem prL_eq : prL A B = pairL N m := by
  have e : prL A B = pairL A.worlds.toNat B.worlds.toNat := if_pos h
  rw [e, okA.worlds, okB.worlds]; simp
theorem prM_eq : prM A B = ⟨((N * m : Nat) : Int), A.val.map (fun s => bothS (pairL N m) s (allW m)) ++ B.val.map (fun t => bothS (pairL N m) (allW N) t), (List.range A.rel.length).map fun i => prR (pairL N m) (nth A.rel i) (nth B.rel i)⟩ := by
  have e : prM A B = ⟨((prL A B).length : Int), A.val.map (fun s => bothS (prL A B) s (allW B.worlds.toNat)) ++ B.val.map (fun t => bothS (prL A B) (allW A.worlds.toNat) t), (List.range A.rel.length).map fun i => prR (prL A B) (nth A.rel i) (nth B.rel i)⟩ := if_pos h
  have ea : A.worlds.toNat = N := by rw [okA.worlds]; exact Int.toNat_natCast _
  have eb : B.worlds.toNat = m := by rw [okB.worlds]; exact Int.toNat_natCast _
  rw [e, prL_eq okA okB h, pairL_len, ea, eb]
theorem pr_size : N * m ≤ 64 ∧ A.rel.length = B.rel.length ∧ A.val.length + B.val.length ≤ 8 := by
  obtain ⟨N', m', a, b, c, d, e⟩ := prErr_ok h
  have e1 : (N : Int) = N' := by rw [← okA.worlds, ← a.worlds]
  have e2 : (m : Int) = m' := by rw [← okB.worlds, ← b.worlds]
  obtain rfl : N = N' := by omega
  obtain rfl : m = m' := by omega
  exact ⟨d, c, e⟩
omit okA okB h in
theorem both_in (s t : BitVec 64) : Sub (bothS (pairL N m) s t) (allW (N * m)) := by
  have := setTo_in (fun i => bt s (nth (pairL N m) i).1 && bt t (nth (pairL N m) i).2) (pairL N m).length
  rw [pairL_len] at this
  unfold bothS; rw [pairL_len]; exact this
theorem pr_ok : MoOk (prM A B) (N * m) := by
  obtain ⟨s1, s2, s3⟩ := pr_size okA okB h
  rw [prM_eq okA okB h]
  refine ⟨rfl, Nat.mul_pos okA.one okB.one, s1, by simpa using okA.rel, by simpa using s3, ?_, ?_, ?_⟩
  · intro r hr
    obtain ⟨a, ha, rfl⟩ := List.mem_map.1 hr
    simp [prR, pairL_len]
  · intro s hs
    rcases List.mem_append.1 hs with hs | hs
    · obtain ⟨a, ha, rfl⟩ := List.mem_map.1 hs
      exact andNot_zero.2 (both_in _ _)
    · obtain ⟨a, ha, rfl⟩ := List.mem_map.1 hs
      exact andNot_zero.2 (both_in _ _)
  · intro r hr s hs
    obtain ⟨a, ha, rfl⟩ := List.mem_map.1 hr
    obtain ⟨p, hp, rfl⟩ := List.mem_map.1 hs
    exact andNot_zero.2 (both_in _ _)
theorem pr_cell {q i j : Nat} (hq : q < A.rel.length) (hi : i < N * m) (hj : j < N * m) : bt (nth (nth (prM A B).rel q) i) j = (bt (nth (nth A.rel q) (i / m)) (j / m) && bt (nth (nth B.rel q) (i % m)) (j % m)) := by
  obtain ⟨s1, s2, s3⟩ := pr_size okA okB h
  rw [prM_eq okA okB h]
  show bt (nth (nth ((List.range A.rel.length).map _) q) i) j = _
  rw [nth_mapN _ _ (by simpa using hq), nth_range hq]
  unfold prR
  rw [nth_mapN _ _ (by rw [pairL_len]; exact hi), pairL_nth hi, bt_both _ _ (by omega), pairL_nth hj, pairL_len]
  simp [hj]
/-- The first parts of the pairs. -/
def fstL (N m : Nat) : List Nat := (List.range (N * m)).map (· / m)
omit okA okB h in
theorem fstL_len (N m : Nat) : (fstL N m).length = N * m := by simp [fstL]
omit okA okB h in
theorem fstL_nth {N m i : Nat} (hi : i < N * m) : nth (fstL N m) i = i / m := by
  unfold fstL; rw [nth_mapN _ _ (by simpa using hi), nth_range hi]
theorem pr_bmod (he : ∀ q, q < A.rel.length → ∀ v, v < m → bt (nth (nth B.rel q) v) v = true) : Bmod A (prM A B) N (fstL N m) := by
  obtain ⟨s1, s2, s3⟩ := pr_size okA okB h
  have okM := pr_ok okA okB h
  have hm0 : 0 < m := okB.one
  have dlt : ∀ i, i < N * m → i / m < N := fun i hi => Nat.div_lt_of_lt_mul (by rw [Nat.mul_comm]; exact hi)
  have mlt : ∀ i, i % m < m := fun i => Nat.mod_lt _ hm0
  have hrel : (prM A B).rel.length = A.rel.length := by rw [prM_eq okA okB h]; simp
  -- the world beside a world
  have lift : ∀ i u, i < N * m → u < N → ∃ j, j < N * m ∧ j / m = u ∧ j % m = i % m := fun i u hi hu => by
    refine ⟨m * u + i % m, ?_, ?_, ?_⟩
    · have h1 := mlt i
      have h2 : m * (u + 1) ≤ m * N := Nat.mul_le_mul_left m hu
      rw [Nat.mul_comm N m]
      rw [Nat.mul_add, Nat.mul_one] at h2; omega
    · rw [Nat.mul_add_div hm0, Nat.div_eq_of_lt (mlt i)]; omega
    · rw [Nat.mul_add_mod, Nat.mod_mod]
  have inN : ∀ {r : List (BitVec 64)}, (∀ v, v < N → Sub (nth r v) (allW N)) → ∀ v u, v < N → bt (nth r v) u = true → u < N := by
    intro r hr v u hv hb
    have h64 := bt_lt64 hb
    have := hr v hv u h64 hb
    rw [bt_allW] at this; simp at this; exact this.2
  have mk : ∀ {r r' : List (BitVec 64)}, r.length = N ∧ (∀ v, v < N → Sub (nth r v) (allW N)) → r'.length = N * m ∧ (∀ v, v < N * m → Sub (nth r' v) (allW (N * m))) →
      (∀ i j, i < N * m → j < N * m → bt (nth r' i) j = true → bt (nth r (i / m)) (j / m) = true) →
      (∀ i u j, i < N * m → u < N → j < N * m → j / m = u → j % m = i % m → bt (nth r (i / m)) u = true → bt (nth r' i) j = true) → Bmo r r' N (fstL N m) := by
    intro r r' h1 h2 h3 h4
    refine ⟨h1.1, by rw [fstL_len]; exact h2.1, h1.2, by rw [fstL_len]; exact h2.2, ?_, ?_⟩
    · intro i j hi hj hb
      rw [fstL_len] at hi hj
      rw [fstL_nth hi, fstL_nth hj]
      exact h3 i j hi hj hb
    · intro i u hi hb
      rw [fstL_len] at hi
      rw [fstL_nth hi] at hb
      have hu := inN h1.2 _ _ (dlt i hi) hb
      obtain ⟨j, j1, j2, j3⟩ := lift i u hi hu
      exact ⟨j, by rw [fstL_len]; exact j1, by rw [fstL_nth j1]; exact j2, h4 i u j hi hu j1 j2 j3 hb⟩
  refine ⟨okA, by rw [fstL_len]; exact okM, fun i hi => by rw [fstL_len] at hi; rw [fstL_nth hi]; exact dlt i hi, by rw [fstL_len]; exact Nat.le_mul_of_pos_right N hm0, hrel, by rw [prM_eq okA okB h]; simp, ?_, ?_, ?_, ?_⟩
  · intro k hk i hi
    rw [fstL_len] at hi
    have e : nth (prM A B).val k = bothS (pairL N m) (nth A.val k) (allW m) := by
      rw [prM_eq okA okB h]
      show nth (_ ++ _) k = _
      rw [nth_append_left (by simpa using hk), nth_mapN _ _ hk]
    rw [e, fstL_nth hi, bt_both _ _ (by omega), pairL_nth hi, pairL_len, bt_allW]
    have h1 := mlt i
    have h2 := okB.most
    have h3 : i % m < 64 := by omega
    simp [hi, h1, h3]
  · intro q hq
    refine mk (row_in okA hq) (row_in okM (by rw [hrel]; exact hq)) ?_ ?_
    · intro i j hi hj hb
      rw [pr_cell okA okB h hq hi hj, Bool.and_eq_true] at hb
      exact hb.1
    · intro i u j hi hu hj e1 e2 hb
      rw [pr_cell okA okB h hq hi hj, e1, e2, hb, he q hq _ (mlt i)]; rfl
  · intro G h1 h2
    have h2' : (G : Int) < p2 (prM A B).rel.length := by rw [hrel]; exact h2
    refine mk (group_in okA h1 h2) (group_in okM h1 h2') ?_ ?_
    · intro i j hi hj hb
      rw [group_row okM h1 h2' hi, bt_joinRow, hrel] at hb
      obtain ⟨a, a1, a2, a3⟩ := hb
      rw [pr_cell okA okB h a1 hi hj, Bool.and_eq_true] at a3
      rw [group_row okA h1 h2 (dlt i hi), bt_joinRow]
      exact ⟨a, a1, a2, a3.1⟩
    · intro i u j hi hu hj e1 e2 hb
      rw [group_row okA h1 h2 (dlt i hi), bt_joinRow] at hb
      obtain ⟨a, a1, a2, a3⟩ := hb
      rw [group_row okM h1 h2' hi, bt_joinRow, hrel]
      exact ⟨a, a1, a2, by rw [pr_cell okA okB h a1 hi hj, e1, e2, a3, he a a1 _ (mlt i)]; rfl⟩
  · intro G h1 h2
    have h2' : (G : Int) < p2 (prM A B).rel.length := by rw [hrel]; exact h2
    have hA64 := okA.most
    refine mk (meet_in okA h1 h2) (meet_in okM h1 h2') ?_ ?_
    · intro i j hi hj hb
      rw [meet_row okM h1 h2' hi, bt_meetRow _ _ _ _ hj (by omega), hrel, allQ_iff] at hb
      rw [meet_row okA h1 h2 (dlt i hi), bt_meetRow _ _ _ _ (dlt j hj) (by have := dlt j hj; omega), allQ_iff]
      intro a ha
      have := hb a ha
      rw [pr_cell okA okB h ha hi hj] at this
      cases hg : G.testBit a
      · rfl
      · rw [hg] at this; simp at this; simp [this.1]
    · intro i u j hi hu hj e1 e2 hb
      rw [meet_row okA h1 h2 (dlt i hi), bt_meetRow _ _ _ _ hu (by omega), allQ_iff] at hb
      rw [meet_row okM h1 h2' hi, bt_meetRow _ _ _ _ hj (by omega), hrel, allQ_iff]
      intro a ha
      have := hb a ha
      rw [pr_cell okA okB h ha hi hj, e1, e2, he a ha _ (mlt i)]
      simpa using this
/-- A formula about the first one of two models holds at a pair exactly if it holds at its first part. -/
theorem sides_law (he : ∀ q, q < A.rel.length → eqvB (nth B.rel q) = true) {f : List Nd} (hf : reqErr A f = 0) : reqErr (prM A B) f = 0 ∧ ∀ i, i < N * m → bt (holdsOf (prM A B) f) i = bt (holdsOf A f) (i / m) := by
  obtain ⟨s1, s2, s3⟩ := pr_size okA okB h
  have hb := pr_bmod okA okB h fun q hq v hv => (eqvB_iff.1 (he q hq) v (by rw [(row_in okB (by omega)).1]; exact hv)).1
  have hc := (reqErr_ok hf).2.1
  have If := IsF.of hc
  obtain ⟨a1, a2⟩ := set_sem okA.check If
  obtain ⟨b1, b2⟩ := set_sem (pr_ok okA okB h).check If
  rw [hf] at a1
  obtain ⟨c1, c2⟩ := sem_bmo hb (rt f) If.fk (by rw [← a1]; rfl)
  rw [c1] at b1
  refine ⟨by simpa using b1, fun i hi => ?_⟩
  rw [b2, a2, c2 i (by rw [fstL_len]; exact hi), fstL_nth hi]
end
end Wt

/- Walk: observe.Pool. -/
namespace Wt
open Go Go.RowKit Go.Maps Go.Proofs Fm

theorem sn_infoP : (Tryz.prog.info? 26).map (fun i => (i.zero, i.size, i.bytes)) = some (some (.slice none 0 0), 1, 24) := by kernel_rfl
theorem node_infoP : (Tryz.prog.info? 62).map (fun i => (i.zero, i.size, i.bytes)) = some (some (.agg #[.int .i64 0, .int .i64 0, .int .i64 0, .int .i64 0, .int .i64 0, .int .i64 0]), 6, 48) := by kernel_rfl
theorem RN.news {w : World} {a : Addr} {l : List Nd} (h : RN w (some a) l) : ∀ j u, (rowN l)[j]? = some u → w.cell? (a.add j) = some u := by
  intro j u hj
  have hjl : j < l.length * 6 := by
    have := (List.getElem?_eq_some_iff.1 hj).1
    rw [rowN_length] at this; exact this
  have hk : j / 6 < l.length := by omega
  obtain ⟨b, off, e, hc⟩ := h.at_ (j / 6) hk
  simp only [Option.some.injEq] at e
  subst e
  have e1 := rowN_get l (j / 6) (j % 6) hk (Nat.mod_lt _ (by omega))
  rw [show j / 6 * 6 + j % 6 = j by omega, hj] at e1
  rw [Addr.add_lit]
  obtain ⟨c0, c1, c2, c3, c4, c5⟩ := hc
  have hj2 : off + j = off + j / 6 * 6 + j % 6 := by omega
  rw [hj2]
  rcases (show j % 6 = 0 ∨ j % 6 = 1 ∨ j % 6 = 2 ∨ j % 6 = 3 ∨ j % 6 = 4 ∨ j % 6 = 5 by omega) with e | e | e | e | e | e <;> rw [e] at e1 ⊢ <;> simp [ndCells] at e1 <;> subst e1
  · exact c0
  · exact c1
  · exact c2
  · exact c3
  · exact c4
  · exact c5
theorem rowN_one (l : List Nd) : ∀ u ∈ rowN l, u.oneCell' = true := by
  intro u hu
  obtain ⟨n, _, hn⟩ := List.mem_flatMap.1 hu
  simp only [ndCells, List.mem_cons, List.not_mem_nil, or_false] at hn
  rcases hn with rfl | rfl | rfl | rfl | rfl | rfl <;> rfl
set_option maxRecDepth 20000 in
set_option maxHeartbeats 1000000 in
theorem clone_n (a : Option Addr) (c : Nat) (l : List Nd) (w : World) (hr : RN w a l) (hl : l.length ≤ 1000) :
    Calls Tryz.prog 30 #[.slice a l.length c] w fun e w' => (∃ v, e = .returned v ∧ w'.ownsRow w.heap.size 62 6 v l.length (rowN l)) ∧ Ext w w' := by
  obtain ⟨i0, hi1, hz0, hz1, hz2⟩ := info_parts node_infoP
  have hne := fun (W : World) (x : Option Addr) (n c : Nat) => Lib.run_eql_slice_nil (P := Tryz.prog) W 26 62 x n c 0 0 Tryz.underlying26
  cases a with
  | none =>
    have h0 : l = [] := by
      cases l with
      | nil => rfl
      | cons x l =>
        obtain ⟨b, o, e, _⟩ := hr.at_ 0 (by simp)
        cases e
    subst h0
    clear hr hl
    go_enter Tryz.func30, Tryz.ntmps30
    go_wp2
    go_ret
    exact ⟨⟨_, rfl, World.ownsRow_nil _ _ _ _⟩, Ext.refl _⟩
  | some a =>
    have HN := Lib.hid hr.news
    have HO := Lib.hid (rowN_one l)
    have HL := rowN_length l
    clear hr
    go_enter Tryz.func30, Tryz.ntmps30
    go_wp2_with (at_builtin; refine wpList_append_own_at _ rfl _ _ 26 rfl w.heap.size 62 i0 _ 6 48 Tryz.underlying26 hi1 hz0 hz1 hz2 rfl (by decide) _ 0 [] rfl ?c0 a l.length c (rowN l) rfl ?c6 ?c1 HO.out ?c3 ?c4 ?c5 ?_)
    case c0 => exact World.ownsRow_made w #[] 0 (Nat.le_refl _) (by unfold maxLen; omega) rfl
    case c6 => omega
    case c1 => exact fun j u h => ((Ext.refl w).alloc _).cell (HN.out j u h)
    case c3 => unfold maxLen; omega
    case c4 => omega
    case c5 => simp
    intro v' W1 hown hgr _ _
    have hE : Ext w W1 := Below.grown ((Ext.refl w).alloc _) hgr (Ext.size ((Ext.refl w).alloc _)) (fun k hk => by simp [Value.ownBlock] at hk; omega)
    clear hgr
    go_wp2
    go_ret
    exact ⟨⟨v', rfl, by simpa using hown⟩, hE⟩
/-- A list of formulas that the call has made. -/
structure PL (W0 : World) (L : List (List Nd)) (svs : List Value) (v : Value) (w : World) : Prop where
  e : Ext W0 w
  len : svs.length = L.length
  own : w.ownsRow W0.heap.size 26 1 v svs.length svs
  rw : ∀ j, j < L.length → w.ownsRow W0.heap.size 62 6 (nth svs j) (nth L j).length (rowN (nth L j))
def PLV (W0 : World) (L : List (List Nd)) (v : Value) (w : World) : Prop := ∃ svs, PL W0 L svs v w
section
variable {W0 w w' W1 : World} {L : List (List Nd)} {svs : List Value} {v v' : Value}
theorem PL.nil (W0 : World) : PL W0 [] [] (.slice none 0 0) W0 := ⟨Ext.refl _, rfl, World.ownsRow_nil _ _ _ _, fun j hj => absurd hj (by simp)⟩
theorem PL.ext' (h : PL W0 L svs v w) (e : Ext w w') : PL W0 L svs v w' := by
  have hk : ∀ {T sz m : Nat} {v : Value} {xs : List Value}, w.ownsRow W0.heap.size T sz v m xs → w'.ownsRow W0.heap.size T sz v m xs := fun {_ _ _ v _} ho => ho.kept (row := none) ⟨e.os, e.tape, e.output, e.size, fun k hk _ => e.block k hk⟩ (by cases v.ownBlock <;> simp)
  exact ⟨h.e.trans e, h.len, hk h.own, fun j hj => hk (h.rw j hj)⟩
theorem PL.push (h : PL W0 L svs v w) {sv : Value} {f : List Nd} (hs : w.ownsRow W0.heap.size 62 6 sv f.length (rowN f)) (ho : W1.ownsRow W0.heap.size 26 1 v' (svs.length + 1) (svs ++ [sv])) (g : w.grownBy W1 v.ownBlock) : PL W0 (L ++ [f]) (svs ++ [sv]) v' W1 := by
  have hr : ∀ k, v.ownBlock = some k → W0.heap.size ≤ k := fun k hk => (h.own.lt k hk).1
  have hk : ∀ {m : Nat} {u : Value} {xs : List Value}, w.ownsRow W0.heap.size 62 6 u m xs → W1.ownsRow W0.heap.size 62 6 u m xs := fun ho => ho.kept g (own_ne ho h.own (by decide))
  refine ⟨Below.grown h.e g h.e.size (fun k hk => hr k hk), by simp [h.len], by rw [List.length_append]; exact ho, fun j hj => ?_⟩
  by_cases hj2 : j < L.length
  · rw [nth_appL _ _ (by rw [h.len]; exact hj2), nth_appL _ _ hj2]; exact hk (h.rw j hj2)
  · have e : j = L.length := by simp at hj; omega
    subst e
    have e1 := nth_appR svs [sv] (k := 0) (by simp)
    have e2 := nth_appR L [f] (k := 0) (by simp)
    rw [Nat.add_zero, h.len] at e1
    rw [Nat.add_zero] at e2
    rw [e1, e2]; exact hk hs
theorem PL.rnn (h : PL W0 L svs v w) (h1 : L.length ≤ 1000) (h2 : ∀ f ∈ L, f.length ≤ 1000) : ∃ a c, v = .slice a L.length c ∧ RNN w a L := by
  have hl := h.len
  rcases h.own.2 with ⟨rfl, h0⟩ | ⟨g, cap, cur, rfl, hb, hg, hnc, hcm, hcs, htake⟩
  · have : L = [] := List.eq_nil_of_length_eq_zero (by omega)
    subst this
    exact ⟨none, 0, rfl, RNN.nil _ _⟩
  · refine ⟨some ⟨g, 0, none⟩, cap, by rw [hl], by omega, fun k hk => ?_⟩
    obtain ⟨a', c', hv, hr⟩ := RN_of_own (h.rw k hk) (by have := h2 _ (nth_mem hk); omega)
    refine ⟨g, 0, a', c', rfl, (Array.getElem?_eq_some_iff.1 hg).1, ?_, hr⟩
    rw [cell_of_row w g _ cur _ (0, 0) hg, Nat.zero_add, ← hv]
    have h3 : svs[k]? = some (nth svs k) := by rw [nth_eq svs k (by omega)]; simp [show k < svs.length by omega]
    have h4 : (cur.toList.take (svs.length * 1))[k]? = some (nth svs k) := by rw [htake]; exact h3
    rw [List.getElem?_take, if_pos (by omega)] at h4
    simpa using h4
end
/-- Few and small observations. -/
structure FewS (seen : List (List (List Nd))) : Prop where
  agents : seen.length ≤ 6
  few : ∀ l ∈ seen, l.length ≤ 20 ∧ ∀ f ∈ l, f.length ≤ 20
theorem poolTo_len {seen : List (List (List Nd))} (h : FewS seen) (g : Nat) : ∀ k, k ≤ seen.length → (poolTo seen g k).length ≤ 20 * k ∧ ∀ f ∈ poolTo seen g k, f.length ≤ 20
  | 0, _ => by simp [poolTo]
  | k + 1, hk => by
    obtain ⟨i1, i2⟩ := poolTo_len h g k (by omega)
    obtain ⟨f1, f2⟩ := h.few _ (nth_mem (show k < seen.length by omega))
    unfold poolTo
    split
    · refine ⟨by rw [List.length_append]; omega, fun f hf => ?_⟩
      rcases List.mem_append.1 hf with hf | hf
      · exact i2 f hf
      · exact f2 f hf
    · simp only [List.append_nil]; exact ⟨by omega, i2⟩
/-- What Pool returns. -/
def RetPl (L : List (List Nd)) (c : Int) (e : Ending) (w w' : World) : Prop := ∃ a cc, e = .returned (.tuple #[.slice a L.length cc, .int .i64 c]) ∧ RNN w' a L ∧ Ext w w'
set_option maxRecDepth 20000 in
set_option maxHeartbeats 4000000 in
theorem pool_any (seen : List (List (List Nd))) (sa : Option Addr) (sc : Nat) (g : Int) (w : World) (hs : RNNN w sa seen) (hF : FewS seen) :
    Calls Tryz.prog 16 #[.slice sa seen.length sc, .int .i64 g] w fun e w' => RetPl (poolOf seen g) (poolErr seen g) e w w' := by
  have h6 := hF.agents
  have h63 : seen.length < 63 := by omega
  have HS := Lib.hid hs
  have HF := Lib.hid hF
  clear hs hF
  by_cases hz : poolErr seen g = 0
  rotate_left
  · have hn : poolErr seen g = 2 := by
      unfold poolErr at hz ⊢
      split
      · rfl
      · next h => rw [if_neg h] at hz; exact absurd rfl hz
    have hn2 : poolOf seen g = [] := by unfold poolOf; rw [if_neg hz]
    have hd : (decide ((4 : Int) < seen.length) || decide (g < 1) || decide (p2 seen.length ≤ g)) = true := by
      have h2 : 4 < seen.length ∨ g < 1 ∨ p2 seen.length ≤ g := by
        by_cases h : 4 < seen.length ∨ g < 1 ∨ p2 seen.length ≤ g
        · exact h
        · unfold poolErr at hz; rw [if_neg h] at hz; exact absurd rfl hz
      rcases h2 with h | h | h
      · simp [show (4 : Int) < seen.length by omega]
      · simp [h]
      · simp [h]
    have HN := Lib.hid hn
    have HN2 := Lib.hid hn2
    clear hz hn hn2
    cases d1 : decide ((4 : Int) < seen.length) <;> cases d2 : decide (g < 1) <;> cases d3 : decide (p2 seen.length ≤ g)
    all_goals rw [d1, d2, d3] at hd
    case false.false.false => cases hd
    all_goals
      clear hd
      go_enter Tryz.func16, Tryz.ntmps16
      go_wp2_with fail
      go_ret2
      exact ⟨none, 0, by rw [HN.out, HN2.out]; rfl, by rw [HN2.out]; exact RNN.nil _ _, Ext.refl _⟩
  · have hz2 : ¬ (4 < seen.length ∨ g < 1 ∨ p2 seen.length ≤ g) := by
      intro h; unfold poolErr at hz; rw [if_pos h] at hz; omega
    obtain ⟨gn, rfl⟩ := Int.eq_ofNat_of_zero_le (show 0 ≤ g by omega)
    have hn2 : poolOf seen gn = poolTo seen gn seen.length := by unfold poolOf; rw [if_pos hz]; simp
    have d1 : decide ((4 : Int) < seen.length) = false := by simp; omega
    have d2 : decide ((gn : Int) < 1) = false := by simp; omega
    have d3 : decide (p2 seen.length ≤ (gn : Int)) = false := by simp; omega
    have hgn : gn < 9223372036854775808 := by
      have h3 : (gn : Int) < p2 seen.length := by omega
      unfold p2 at h3
      have h5 : 2 ^ seen.length ≤ 2 ^ 4 := Nat.pow_le_pow_right (by omega) (by omega)
      omega
    have HN := Lib.hid hz
    have HN2 := Lib.hid hn2
    obtain ⟨i0, hi1, hz0, hz1, hz2'⟩ := info_parts sn_infoP
    clear hz hz2 hn2
    go_enter Tryz.func16, Tryz.ntmps16
    go_wp2_with fail
    go_loopw [6, 27] (fun v i wr => ∃ k : Nat, k ≤ seen.length ∧ i = .int .i64 (k : Int) ∧ PLV w (poolTo seen gn k) v wr) (fun _ i _ => seen.length - (intOf i).toNat)
    case atStart => exact ⟨0, Nat.zero_le _, rfl, [], PL.nil w⟩
    case round =>
      obtain ⟨k, hk, rfl, svs0, hP⟩ := hrel
      have HP := Lib.hid hP
      by_cases hlt : k < seen.length
      · obtain ⟨b, off, a1, c1, rfl, hb0, hc0, hu⟩ := HS.out.get k hlt
        have hc := hP.e.cell hc0
        have hb : b < wr.heap.size := Nat.lt_of_lt_of_le hb0 hP.e.size
        have HU := Lib.hid hu
        cases hg : gn.testBit k
        · have hs : poolTo seen gn (k + 1) = poolTo seen gn k := by
            show poolTo seen gn k ++ (if gn.testBit k then nth seen k else []) = _
            rw [if_neg (by simp [hg]), List.append_nil]
          have hb0 : b01 gn k = 0 := by simp [b01, hg]
          have HS2 := Lib.hid hs
          clear hP hu hs hg
          go_wp2_with fail
          go_roundw
          case rel => exact ⟨k + 1, hlt, by go_num, svs0, by rw [HS2.out]; exact HP.out⟩
          case measure => simp [intOf]; omega
        · have hs : poolTo seen gn (k + 1) = poolTo seen gn k ++ nth seen k := by
            show poolTo seen gn k ++ (if gn.testBit k then nth seen k else []) = _
            rw [if_pos hg]
          have hb0 : b01 gn k = 1 := by simp [b01, hg]
          have HS2 := Lib.hid hs
          have hfs := HF.out.few _ (nth_mem hlt)
          have HFS := Lib.hid hfs
          have hll := hfs.1
          have hpl := (poolTo_len HF.out gn k hk).1
          clear hP hu hs hg hfs
          go_wp2_with fail
          go_loopw [6, 39] (fun v i wz => ∃ j : Nat, j ≤ (nth seen k).length ∧ i = .int .i64 (j : Int) ∧ PLV w (poolTo seen gn k ++ (nth seen k).take j) v wz) (fun _ i _ => (nth seen k).length - (intOf i).toNat)
          case atStart => exact ⟨0, Nat.zero_le _, rfl, svs0, by rw [List.take_zero, List.append_nil]; exact HP.out⟩
          case round =>
            rename World => wz
            obtain ⟨j, hj, rfl, svs, hQ⟩ := hrel
            have HQ := Lib.hid hQ
            by_cases hlt2 : j < (nth seen k).length
            · obtain ⟨b2, off2, a2, c2, rfl, hb2, hc2, hu2⟩ := HU.out.get j hlt2
              have hc3 := hQ.e.cell hc2
              have hb3 : b2 < wz.heap.size := Nat.lt_of_lt_of_le hb2 hQ.e.size
              have hx := HFS.out.2 _ (nth_mem hlt2)
              have hone : poolTo seen gn k ++ (nth seen k).take (j + 1) = (poolTo seen gn k ++ (nth seen k).take j) ++ [nth (nth seen k) j] := by
                rw [List.append_assoc, nth_eq _ _ hlt2, List.take_add_one, List.getElem?_eq_getElem hlt2]; rfl
              have HONE1 := Lib.hid hone
              have hsl : svs.length ≤ 200 := by rw [hQ.len, List.length_append, List.length_take]; omega
              have hsz : w.heap.size ≤ wz.heap.size := hQ.e.size
              have HU2 := Lib.hid hu2
              clear hQ hone hc2 hb2 hu2
              go_wp2_with (first | (go_at_call 30; refine (clone_n a2 c2 _ _ (HU2.out.ext HQ.out.e) (by omega)).mono ?_; rintro e w1 ⟨⟨sv, rfl, hsv⟩, hE1⟩; have hsz1 : w.heap.size ≤ w1.heap.size := Nat.le_trans hsz hE1.size; obtain ⟨a3, c3, rfl, -⟩ := RN_of_own hsv (by omega); have HSV : Hid (∀ o, (w1.alloc o).ownsRow w.heap.size 62 6 (.slice a3 (nth (nth seen k) j).length c3) (nth (nth seen k) j).length (rowN (nth (nth seen k) j))) := Lib.hid (fun o => (own_mono hsv hsz).kept (row := none) ⟨rfl, rfl, rfl, by simp, fun q hq _ => ((Ext.refl w1).alloc o).block q hq⟩ (by cases (Value.slice a3 (nth (nth seen k) j).length c3).ownBlock <;> simp)); have HPA : Hid (∀ o, PL w (poolTo seen gn k ++ (nth seen k).take j) svs u6 (w1.alloc o)) := Lib.hid (fun o => (HQ.out.ext' hE1).ext' ((Ext.refl w1).alloc o)); have HONE : Hid (∀ u ∈ [Value.slice a3 (nth (nth seen k) j).length c3], u.oneCell' = true) := Lib.hid (fun u hu => by rw [List.mem_singleton.1 hu]; rfl); clear hsv hE1) | (at_builtin; refine wpList_append_lies _ rfl _ _ 37 rfl w.heap.size 26 i0 _ 1 24 Tryz.underlying37 hi1 hz0 hz1 hz2' rfl (by decide) u6 svs.length svs rfl (HPA.out _).own ⟨w1.heap.size, 0, none⟩ 1 1 [.slice a3 (nth (nth seen k) j).length c3] rfl rfl (cell_one_new _ _ _) HONE.out (by decide) (by unfold maxLen; omega) (by omega) (by simp; omega) (w1.heap.size + 1) (by simp) ?_; intro gx cap W1 hown hgrow hat hlt9; have hpush := (HPA.out _).push (HSV.out _) hown hgrow; have HPU := Lib.hid hpush; clear hpush hown hgrow hat))
              go_roundw
              case rel => exact ⟨j + 1, hlt2, by go_num, _, by rw [HONE1.out]; exact HPU.out⟩
              case measure => simp [intOf]; omega
            · obtain rfl : j = (nth seen k).length := by omega
              have HS3 : Hid (poolTo seen gn (k + 1) = poolTo seen gn k ++ (nth seen k).take (nth seen k).length) := Lib.hid (by rw [HS2.out, List.take_length])
              clear hQ
              go_wp2
              go_roundw
              case rel => exact ⟨k + 1, hlt, by go_num, svs, by rw [HS3.out]; exact HQ.out⟩
              case measure => simp [intOf]; omega
      · obtain rfl : k = seen.length := by omega
        obtain ⟨p1, p2⟩ := poolTo_len HF.out gn seen.length (Nat.le_refl _)
        obtain ⟨a, c, rfl, hr⟩ := hP.rnn (by omega) (fun f hf => by have := p2 f hf; omega)
        have HR := Lib.hid hr
        clear hP hr p2
        go_wp2
        go_ret2
        exact ⟨a, c, by rw [HN.out, HN2.out]; rfl, by rw [HN2.out]; exact HR.out, HP.out.e⟩
end Wt
