/- Plain laws of announcements: two in a row are one restriction; what repetition leaves; whether and then restriction. -/
import Derived.Test.YtflnfcmbalhpnaaGreatDoorM4Ao
import Derived.Test.YtflnfcmbalhpnaaGreatDoorM4Bd
import Derived.Test.YtflnfcmbalhpnaaGreatDoorM4Am
import Derived.Test.YtflnfcmbalhpnaaGreatDoorM4Bc
namespace Wt
open Go Go.RowKit Go.Proofs Fm

end Wt

namespace Wt
open Go Go.RowKit Go.Proofs Fm

def alikeT (ts : List (BitVec 64)) (v w : Nat) : Bool := ts.all fun t => bt t v == bt t w
def keyT (ts : List (BitVec 64)) (v : Nat) : Nat → Nat
  | 0 => 0
  | i + 1 => keyT ts v i ||| (if bt (nth ts i) v then 2 ^ i else 0)
theorem keyT_lt (ts : List (BitVec 64)) (v : Nat) : ∀ n, keyT ts v n < 2 ^ n
  | 0 => by simp [keyT]
  | n + 1 => by
    have ih := keyT_lt ts v n
    have h2 : 2 ^ (n + 1) = 2 ^ n + 2 ^ n := by rw [Nat.pow_succ]; omega
    have h3 : 0 < 2 ^ n := Nat.pow_pos (by decide)
    unfold keyT
    refine Nat.or_lt_two_pow (by omega) ?_
    split <;> omega
theorem keyT_bit (ts : List (BitVec 64)) (v : Nat) {j : Nat} : ∀ n, (keyT ts v n).testBit j = (decide (j < n) && bt (nth ts j) v)
  | 0 => by simp [keyT]
  | n + 1 => by
    unfold keyT
    rw [Nat.testBit_or, keyT_bit ts v n]
    by_cases hj : j = n
    · subst hj
      have e : decide (j < j) = false := by simp
      rw [e, Bool.false_and, Bool.false_or]
      split
      · next h => rw [Nat.testBit_two_pow_self, h]; simp
      · next h => simp [h]
    · have e : decide (j < n + 1) = decide (j < n) := by congr 1; exact propext ⟨fun _ => by omega, fun _ => by omega⟩
      rw [e]
      split
      · rw [Nat.testBit_two_pow_of_ne (by omega)]; simp
      · simp
theorem keyT_alike (ts : List (BitVec 64)) (v w : Nat) : keyT ts v ts.length = keyT ts w ts.length ↔ alikeT ts v w = true := by
  constructor
  · intro h
    unfold alikeT
    rw [List.all_eq_true]
    intro t ht
    obtain ⟨k, hk, rfl⟩ := mem_nth ht
    have h1 := keyT_bit ts v (j := k) ts.length
    rw [h, keyT_bit ts w ts.length] at h1
    simp [hk] at h1
    simp [h1]
  · intro h
    refine Nat.eq_of_testBit_eq fun j => ?_
    rw [keyT_bit, keyT_bit]
    by_cases hj : j < ts.length
    · have := List.all_eq_true.1 h _ (nth_mem hj)
      have := eq_of_beq this
      rw [this]
    · simp [hj]
def cellR (states : List Nat) (ts : List (BitVec 64)) : List (BitVec 64) := states.map fun v => setTo (fun w => alikeT ts v (nth states w)) states.length
def valR (n : Nat) (states : List Nat) : List (BitVec 64) := (List.range n).map fun i => setTo (fun w => (nth states w).testBit i) states.length
def tabsErr (n : Int) : List (List Nd) → Int
  | [] => 0
  | f :: r => if tabErr f n ≠ 0 then tabErr f n else tabsErr n r
def seenErr (n : Int) : List (List (List Nd)) → Int
  | [] => 0
  | l :: r => if tabsErr n l ≠ 0 then tabsErr n l else seenErr n r
def obErr (n : Int) (law : List Nd) (seen : List (List (List Nd))) : Int :=
  if 4 < seen.length ∨ ∃ l ∈ seen, 16 < l.length then 8
  else if tabErr law n ≠ 0 then tabErr law n
  else if seenErr n seen ≠ 0 then seenErr n seen
  else if tabOf law n = 0#64 then 11 else 0
def obS (n : Int) (law : List Nd) (seen : List (List (List Nd))) : List Nat := if obErr n law seen = 0 then memL (tabOf law n) else []
def obM (n : Int) (law : List Nd) (seen : List (List (List Nd))) : Mo :=
  if obErr n law seen = 0 then ⟨(memL (tabOf law n)).length, valR n.toNat (memL (tabOf law n)), seen.map fun l => cellR (memL (tabOf law n)) (l.map fun f => tabOf f n)⟩ else ⟨0, [], []⟩
def prErr (A B : Mo) : Int :=
  if moCheck A ≠ 0 then moCheck A else if moCheck B ≠ 0 then moCheck B else if A.rel.length ≠ B.rel.length then 1
  else if 64 < A.worlds * B.worlds ∨ 8 < A.val.length + B.val.length then 8 else 0
end Wt

namespace Wt
open Go Go.RowKit Go.Proofs Fm

section
variable {M : Mo} {N : Nat} (ok : MoOk M N) {q : Nat} (hq : q < M.rel.length)
include ok hq
def eqI (r : List (BitVec 64)) (w : Nat) : Nat → Bool := allQ fun x => !bt (nth r w) x || (nth r w == nth r x)
def eqO (r : List (BitVec 64)) (N : Nat) : Nat → Bool := allQ fun w => bt (nth r w) w && eqI r w N
variable (he : eqO (nth M.rel q) N N = true)
include he
end
section
variable {M : Mo} {N : Nat} (ok : MoOk M N) {a : Nat} (ha : a < M.rel.length)
include ok ha
end
end Wt

namespace Wt
open Go Go.RowKit Go.Proofs Fm

theorem cellR_len (st : List Nat) (ts : List (BitVec 64)) : (cellR st ts).length = st.length := by simp [cellR]
theorem cellR_nth {st : List Nat} (ts : List (BitVec 64)) {x : Nat} (hx : x < st.length) : nth (cellR st ts) x = setTo (fun w => alikeT ts (nth st x) (nth st w)) st.length := nth_mapN _ _ hx
theorem valR_len (n : Nat) (st : List Nat) : (valR n st).length = n := by simp [valR]
section
variable {n : Int} {law : List Nd} {seen : List (List (List Nd))} (h : obErr n law seen = 0)
include h
theorem ob_eq : obM n law seen = ⟨(obS n law seen).length, valR n.toNat (obS n law seen), seen.map fun l => cellR (obS n law seen) (l.map fun f => tabOf f n)⟩ := by
  have e : obS n law seen = memL (tabOf law n) := if_pos h
  rw [e]; exact if_pos h
end
end Wt

namespace Wt
open Go Go.RowKit Go.Proofs Fm

end Wt

namespace Wt
open Go Go.RowKit Go.Proofs Fm

structure Bmo (r r' : List (BitVec 64)) (N : Nat) (ws : List Nat) : Prop where
  len : r.length = N
  len' : r'.length = ws.length
  inN : ∀ v, v < N → Sub (nth r v) (allW N)
  inW : ∀ v, v < ws.length → Sub (nth r' v) (allW ws.length)
  fwd : ∀ i j, i < ws.length → j < ws.length → bt (nth r' i) j = true → bt (nth r (nth ws i)) (nth ws j) = true
  bck : ∀ i u, i < ws.length → bt (nth r (nth ws i)) u = true → ∃ j, j < ws.length ∧ nth ws j = u ∧ bt (nth r' i) j = true
section
variable {N : Nat} {ws : List Nat} (h64 : N ≤ 64) (hl : ws.length ≤ 64) (hlt : ∀ i, i < ws.length → nth ws i < N)
include h64 hl hlt
end
structure Bmod (A M : Mo) (N : Nat) (ws : List Nat) : Prop where
  okA : MoOk A N
  okM : MoOk M ws.length
  lt : ∀ i, i < ws.length → nth ws i < N
  le : N ≤ ws.length
  rel : M.rel.length = A.rel.length
  val : A.val.length ≤ M.val.length
  fact : ∀ k, k < A.val.length → Agr ws (nth M.val k) (nth A.val k)
  agent : ∀ q, q < A.rel.length → Bmo (nth A.rel q) (nth M.rel q) N ws
  group : ∀ G : Nat, 1 ≤ G → (G : Int) < p2 A.rel.length → Bmo (groupOf A G) (groupOf M G) N ws
  meet : ∀ G : Nat, 1 ≤ G → (G : Int) < p2 A.rel.length → Bmo (meetOf A G) (meetOf M G) N ws
section
variable {A M : Mo} {N : Nat} {ws : List Nat} (h : Bmod A M N ws)
include h
end
section
variable {A B : Mo} {N m : Nat} (okA : MoOk A N) (okB : MoOk B m) (h : prErr A B = 0)
include okA okB h
end
end Wt

namespace Wt
open Go Go.RowKit Go.Proofs Fm

def fullB (n : Nat) : BitVec 64 := if n = 6 then 18446744073709551615#64 else 1#64 <<< (2 ^ n) - 1#64
def ccFact (i : Int) : List Nd := fB ⟨3, i, 0, 0, 0, 0⟩ []
def ccNot (f : List Nd) : List Nd := fB ⟨4, 0, 0, 0, 0, 0⟩ [f]
def ccAnd (f g : List Nd) : List Nd := fB ⟨5, 0, 0, 0, 0, 0⟩ [f, g]
def ccOr (f g : List Nd) : List Nd := fB ⟨6, 0, 0, 0, 0, 0⟩ [f, g]
def ccImp (f g : List Nd) : List Nd := fB ⟨7, 0, 0, 0, 0, 0⟩ [f, g]
def ccIff (f g : List Nd) : List Nd := fB ⟨8, 0, 0, 0, 0, 0⟩ [f, g]
def ccDist (g : Int) (f : List Nd) : List Nd := fB ⟨12, 0, 0, g, 0, 0⟩ [f]
def ccTrue : List Nd := fB ⟨1, 0, 0, 0, 0, 0⟩ []
def ccFalse : List Nd := fB ⟨2, 0, 0, 0, 0, 0⟩ []
def decF : Nat → BitVec 64 → List Nd
  | 0, t => if t = 0#64 then ccFalse else ccTrue
  | n + 1, t =>
    if t = 0#64 then ccFalse else if t = fullB (n + 1) then ccTrue
    else
      let low := t &&& fullB n
      let high := t >>> (2 ^ n)
      if low = high then decF n low
      else
        let p := ccFact (n : Int)
        if low = 0#64 ∧ high = fullB n then p
        else if high = 0#64 ∧ low = fullB n then ccNot p
        else if low = 0#64 then ccAnd p (decF n high)
        else if high = 0#64 then ccAnd (ccNot p) (decF n low)
        else if low = fullB n then ccImp p (decF n high)
        else if high = fullB n then ccOr p (decF n low)
        else ccAnd (ccImp p (decF n high)) (ccOr p (decF n low))
def amongF (n : Nat) (p : Nat → Bool) : List Nd := decF n (setTo p (2 ^ n))
def onesN (v : Nat) : Nat := (List.range 64).countP fun i => v.testBit i
def votesM (n : Nat) : Mo := obM (n : Int) ccTrue ((List.range n).map fun i : Nat => [ccFact (i : Int)])
def annW (p : Mo × Int) (f : List Nd) : Mo × Int :=
  let set := if bt (holdsOf p.1 f) p.2.toNat then holdsOf p.1 f else if p.1.worlds < 64 then ~~~ holdsOf p.1 f &&& (1#64 <<< p.1.worlds.toNat - 1#64) else ~~~ holdsOf p.1 f
  (resM p.1 set, posI (if resErr p.1 set = 0 then memL set else []) p.2)
def knowsW (p : Mo × Int) (g i : Int) : Bool := atOf p.1 p.2 (ccDist g (ccFact i)) || atOf p.1 p.2 (ccDist g (ccNot (ccFact i)))
def tallyF (n k : Nat) : List Nd := amongF n fun v => onesN v == k
def passF (n k : Nat) : List Nd := amongF n fun v => decide (k ≤ onesN v)
def countedW (n v : Nat) : Mo × Int := annW (votesM n, (v : Int)) (tallyF n (onesN v))
def decidedW (n v q : Nat) : Mo × Int := annW (votesM n, (v : Int)) (passF n q)
def dinLaw (n : Nat) : List Nd := amongF (2 * n) fun v => decide (onesN (v &&& (2 ^ n - 1)) ≤ 1)
def dinSeen (n : Nat) : List (List (List Nd)) := (List.range n).map fun i : Nat => [ccFact (i : Int), ccFact ((n + i : Nat) : Int), ccFact ((n + (i + n - 1) % n : Nat) : Int)]
def dinM (n : Nat) : Mo := obM ((2 * n : Nat) : Int) (dinLaw n) (dinSeen n)
def dinS (n : Nat) : List Nat := obS ((2 * n : Nat) : Int) (dinLaw n) (dinSeen n)
def sayF (n a : Nat) : List Nd := ccIff (ccIff (ccFact ((n + a : Nat) : Int)) (ccFact ((n + (a + n - 1) % n : Nat) : Int))) (ccFact (a : Int))
theorem isF_fact {i : Nat} (h : i < 8) : IsF (ccFact (i : Int)) (.leaf 3 (i : Int) 0 0) := by
  have h1 : ∀ i : _root_.Fin 8, fCheck (ccFact ((i.val : Nat) : Int)) = 0 ∧ rt (ccFact ((i.val : Nat) : Int)) = .leaf 3 ((i.val : Nat) : Int) 0 0 := by decide +kernel
  exact ⟨(h1 ⟨i, h⟩).1, (h1 ⟨i, h⟩).2⟩
theorem isF_notFact {i : Nat} (h : i < 8) : IsF (ccNot (ccFact (i : Int))) (.un 4 0 0 0 (.leaf 3 (i : Int) 0 0)) := by
  have h1 : ∀ i : _root_.Fin 8, fCheck (ccNot (ccFact ((i.val : Nat) : Int))) = 0 ∧ rt (ccNot (ccFact ((i.val : Nat) : Int))) = .un 4 0 0 0 (.leaf 3 ((i.val : Nat) : Int) 0 0) := by decide +kernel
  exact ⟨(h1 ⟨i, h⟩).1, (h1 ⟨i, h⟩).2⟩
section
variable {M : Mo} {N : Nat} (ok : MoOk M N)
theorem at_sem {f : List Nd} {a : Fm} (hM : moCheck M = 0) (hw : M.worlds = N) (hf : IsF f a) (hs : (semT M a).2 = true) {x : Nat} (hx : x < N) : atErr M (x : Int) f = 0 ∧ atOf M (x : Int) f = bt (semT M a).1 x := by
  obtain ⟨h1, h2⟩ := set_sem hM hf
  rw [hs] at h1
  have h3 : reqErr M f = 0 := by simpa using h1
  have h4 : atErr M (x : Int) f = 0 := by
    unfold atErr inMo
    rw [if_neg (by simp [h3]), hw, if_pos (by simp; omega)]
  refine ⟨h4, ?_⟩
  unfold atOf
  rw [h4, h2]; simp
def distB (M : Mo) (N g : Nat) (s : BitVec 64) (x : Nat) : Bool := gRow (jOf true) (zOf true N) M.rel g x M.rel.length &&& ~~~ s == 0#64
def knowsB (M : Mo) (N x g i : Nat) : Bool := distB M N g (nth M.val i) x || distB M N g (allW N &&& ~~~ nth M.val i) x
include ok
theorem dist_at {f : List Nd} {a : Fm} (hM : moCheck M = 0) (hf : IsF f a) {s : BitVec 64} (hs : semT M a = (s, true)) (hz : fsize a ≤ 100) {g x : Nat} (h1 : 1 ≤ g) (h2 : (g : Int) < p2 M.rel.length) (hx : x < N) :
    atErr M (x : Int) (ccDist (g : Int) f) = 0 ∧ atOf M (x : Int) (ccDist (g : Int) f) = distB M N g s x := by
  have h15 : (1 : Int) ≤ (g : Int) ∧ (g : Int) ≤ 15 := by
    have : p2 M.rel.length ≤ 16 := by
      have := ok.rel
      rcases (show M.rel.length = 0 ∨ M.rel.length = 1 ∨ M.rel.length = 2 ∨ M.rel.length = 3 ∨ M.rel.length = 4 by omega) with h | h | h | h | h <;> rw [h] <;> decide
    omega
  have hd : IsF (ccDist (g : Int) f) (.un 12 0 0 (g : Int) a) := isF_un hf (fok_dist _ h15 hf.fk) (by have := fsize_un (a := a) 12 0 0 (g : Int); omega)
  have hng : ¬ (p2 M.rel.length ≤ (g : Int)) := by omega
  have e : semT M (.un 12 0 0 (g : Int) a) = (relBox (meetOf M g) s, true) := by
    rw [semT_un _ _ _ _ (by rw [hs]), hs]; simp [valN, hng]
  obtain ⟨h3, h4⟩ := at_sem hM ok.worlds hd (by rw [e]) hx
  refine ⟨h3, ?_⟩
  rw [h4, e]
  have hx64 : x < 64 := by have := ok.most; omega
  obtain ⟨hl, hrow⟩ := meet_in ok h1 h2
  show bt (relBox (meetOf M g) s) x = _
  rw [bt_relBox _ _ _ hx64, hl, rel_ok hl ok.most hrow, meet_row ok h1 h2 hx]
  simp [hx, distB]
theorem knowsW_eq (hM : moCheck M = 0) {x g i : Nat} (hx : x < N) (h1 : 1 ≤ g) (h2 : (g : Int) < p2 M.rel.length) (hi : i < M.val.length) : knowsW (M, (x : Int)) (g : Int) (i : Int) = knowsB M N x g i := by
  have hv := ok.val
  have hni : ¬ ((M.val.length : Int) ≤ (i : Int)) := by omega
  have e1 : semT M (.leaf 3 (i : Int) 0 0) = (nth M.val i, true) := by simp [semT, valN, hni]
  have hN : M.worlds.toNat = N := by rw [ok.worlds]; rfl
  have e2 : semT M (.un 4 0 0 0 (.leaf 3 (i : Int) 0 0)) = (allW N &&& ~~~ nth M.val i, true) := by
    rw [semT_un _ _ _ _ (by rw [e1]), e1]; simp [valN, hN]
  have z1 : fsize (.leaf 3 (i : Int) 0 0) ≤ 1 := by simp [fsize, addT, put]
  obtain ⟨-, a1⟩ := dist_at ok hM (isF_fact (i := i) (by omega)) e1 (by omega) h1 h2 hx
  obtain ⟨-, a2⟩ := dist_at ok hM (isF_notFact (i := i) (by omega)) e2 (by have := fsize_un (a := .leaf 3 (i : Int) 0 0) 4 0 0 0; omega) h1 h2 hx
  unfold knowsW knowsB
  rw [a1, a2]
end
end Wt

namespace Wt
open Go Go.RowKit Go.Maps Go.Proofs Fm

theorem un_pow (n : Nat) (h : n < 63) : un (1#64 <<< n) = ((2 ^ n : Nat) : Int) := by
  have h2 : 2 ^ n < 2 ^ 64 := Nat.pow_lt_pow_right (by omega) (by omega)
  unfold un
  rw [BitVec.toNat_shiftLeft, Nat.shiftLeft_eq]
  simp only [BitVec.toNat_ofNat]
  rw [show (1 : Nat) % 2 ^ 64 = 1 from rfl, Nat.one_mul, Nat.mod_eq_of_lt h2]
theorem shift_shr_un (s : BitVec 64) (yk : IntKind) (n : Nat) (h : n < 63) : Op.shift .shr .u64 (un s) yk (un (1#64 <<< n)) = pure (.int .u64 (un (s >>> 2 ^ n))) := by
  rw [un_pow n h]; exact shift_shr_bv s yk (2 ^ n)
theorem shift_shl_un (yk : IntKind) (n : Nat) (h : n < 63) : Op.shift .shl .u64 1 yk (un (1#64 <<< n)) = pure (.int .u64 (un (1#64 <<< 2 ^ n))) := by
  rw [un_pow n h]; exact shift_shl_bv 1#64 yk (2 ^ n)
attribute [go_sem ↓] shift_shr_un shift_shl_un
theorem full_any (n : Nat) (h : n ≤ 6) (w : World) :
    Calls Tryz.prog 153 #[.int .i64 (n : Int)] w fun e w' => e = .returned (.int .u64 (un (fullB n))) ∧ w = w' := by
  by_cases h6 : n = 6
  · subst h6
    go_enter Tryz.func153, Tryz.ntmps153
    go_wp2
    go_ret
    exact ⟨rfl, rfl⟩
  · have h63 : n < 63 := by omega
    have hq : ((n : Int) == 6) = false := by simp; omega
    have HF : Hid (fullB n = 1#64 <<< 2 ^ n - 1#64) := Lib.hid (if_neg h6)
    clear h6
    go_enter Tryz.func153, Tryz.ntmps153
    go_wp2
    go_ret
    exact ⟨by rw [HF.out]; rfl, rfl⟩
theorem bt_fullB : ∀ n : _root_.Fin 7, ∀ k : _root_.Fin 64, bt (fullB n.val) k.val = decide (k.val < 2 ^ n.val) := by decide +kernel
theorem bt_full {n k : Nat} (hn : n ≤ 6) (hk : k < 64) : bt (fullB n) k = decide (k < 2 ^ n) := bt_fullB ⟨n, by omega⟩ ⟨k, hk⟩
theorem low_in (n : Nat) (t : BitVec 64) : (t &&& fullB n) &&& ~~~ fullB n = 0#64 := andNot_zero.2 fun k _ h => by
  rw [bt_and] at h; simp at h; exact h.2
theorem high_in {n : Nat} (hn : n + 1 ≤ 6) {t : BitVec 64} (h : t &&& ~~~ fullB (n + 1) = 0#64) : (t >>> 2 ^ n) &&& ~~~ fullB n = 0#64 := andNot_zero.2 fun k hk h2 => by
  have h3 : bt t (2 ^ n + k) = true := by
    unfold bt at h2 ⊢; rw [BitVec.getLsbD_ushiftRight] at h2; exact h2
  by_cases h4 : 2 ^ n + k < 64
  · have h5 := andNot_zero.1 h _ h4 h3
    rw [bt_full hn h4] at h5
    rw [bt_full (by omega) hk]
    have h6 := of_decide_eq_true h5
    rw [Nat.pow_succ] at h6
    exact decide_eq_true (by omega)
  · unfold bt at h3
    rw [BitVec.getLsbD_of_ge _ _ (by omega)] at h3; cases h3
theorem decF_no (n : Nat) {t : BitVec 64} (h : t = 0#64) : decF n t = ccFalse := by cases n <;> simp [decF, h]
theorem decF_all (n : Nat) {t : BitVec 64} (h : t ≠ 0#64) (h2 : t = fullB n) : decF n t = ccTrue := by
  cases n with
  | zero => simp [decF, h]
  | succ n => unfold decF; rw [if_neg h, if_pos h2]
theorem tab_zero {t : BitVec 64} (h : t &&& ~~~ fullB 0 = 0#64) (h0 : t ≠ 0#64) : t = fullB 0 := by
  have e : fullB 0 = 1#64 <<< 0 := by decide
  rw [e] at h ⊢
  have hs := andNot_zero.1 h
  have hb : bt t 0 = true := by
    cases h1 : bt t 0
    · refine absurd (bt_ext fun k hk => ?_) h0
      rw [bt_zero]
      cases h2 : bt t k
      · rfl
      · have := hs k hk h2
        rw [bt_shl1] at this
        simp at this
        obtain rfl : k = 0 := this.2
        rw [h1] at h2; cases h2
    · rfl
  refine bt_ext fun k hk => ?_
  rw [bt_shl1]
  by_cases e : k = 0
  · subst e; rw [hb]; simp
  · cases h2 : bt t k
    · simp [e]
    · have := hs k hk h2
      rw [bt_shl1] at this; simp [e] at this
end Wt
