/- Base of this seat's walks: what the memory holds, in words that do not name the program; laws on sets of worlds as BitVec 64. -/
import Derived.WalkKit
import Derived.WalkSpells
import Derived.WalkLawsBesides
import Derived.Lib.Hide
import Derived.IntWalk
namespace Wt
open Go Go.RowKit

/-- All that lay in memory is as it was; there may be more. -/
def Ext (w w' : World) : Prop := Below w.heap.size w w'
theorem Ext.refl (w : World) : Ext w w := Below.refl _ _
theorem Ext.trans {a b c : World} (h : Ext a b) (k : Ext b c) : Ext a c := Below.trans h (Below.mono k h.size)
theorem Ext.alloc {a w : World} (h : Ext a w) (o : Obj) : Ext a (w.alloc o) := Below.alloc h h.size o
theorem Ext.drew {a w : World} (h : Ext a w) : Ext a w.drew := Below.drew h
theorem Ext.drewN {a w : World} (h : Ext a w) (n : Nat) : Ext a (w.drewN n) := ⟨h.os, h.tape, h.output, h.size, h.block⟩
theorem Ext.setCell {a w : World} (h : Ext a w) {p : Addr} (hp : a.heap.size ≤ p.block) (u : Value) : Ext a (w.setCell p u) := Below.setCell h hp u
theorem Ext.size {a w : World} (h : Ext a w) : a.heap.size ≤ w.heap.size := Below.size h
theorem Ext.cell {w w' : World} (h : Ext w w') {p : Addr} {v : Value} (hp : w.cell? p = some v) : w'.cell? p = some v :=
  (Below.cell h (World.block_lt_of_cell? w p hp)).trans hp
theorem Ext.rules {W w1 : World} (hb : Ext W w1) : (∀ b o, b < W.heap.size → w1.cell? ⟨b, o, none⟩ = W.cell? ⟨b, o, none⟩) ∧ (∀ b o, b < W.heap.size → w1.frozen? ⟨b, o, none⟩ = W.frozen? ⟨b, o, none⟩) ∧ (∀ b : Nat, b < W.heap.size → b < w1.heap.size) :=
  ⟨fun b o h => Below.cell hb (p := ⟨b, o, none⟩) h, fun b o h => Below.frozen hb (p := ⟨b, o, none⟩) h, fun _b h => Nat.lt_of_lt_of_le h (Below.size hb)⟩

/-- The k-th of a list. -/
def nth {α : Type} [Inhabited α] (l : List α) (k : Nat) : α := l.getD k default
theorem nth_eq {α : Type} [Inhabited α] (l : List α) (k : Nat) (h : k < l.length) : nth l k = l[k] := by simp [nth, h]

/-- A set of worlds, as Go's uint64: behind a name that simp does not open. -/
def un (s : BitVec 64) : Int := (s.toNat : Int)
/-- A slice of sets of worlds. -/
structure RU (w : World) (a : Option Addr) (l : List (BitVec 64)) : Prop where
  len : l.length ≤ 140737488355328
  at_ : ∀ k, k < l.length → ∃ b off, a = some ⟨b, off, none⟩ ∧ w.cell? ⟨b, off + k, none⟩ = some (.int .u64 (un (nth l k)))
/-- A slice of numbers. -/
structure RI (w : World) (a : Option Addr) (l : List Int) : Prop where
  len : l.length ≤ 140737488355328
  at_ : ∀ k, k < l.length → ∃ b off, a = some ⟨b, off, none⟩ ∧ w.cell? ⟨b, off + k, none⟩ = some (.int .i64 (nth l k))
/-- A slice of truth values. -/
structure RB (w : World) (a : Option Addr) (l : List Bool) : Prop where
  len : l.length ≤ 140737488355328
  at_ : ∀ k, k < l.length → ∃ b off, a = some ⟨b, off, none⟩ ∧ w.cell? ⟨b, off + k, none⟩ = some (.bool (nth l k))
/-- A slice of slices of sets. -/
structure RR (w : World) (a : Option Addr) (l : List (List (BitVec 64))) : Prop where
  len : l.length ≤ 140737488355328
  at_ : ∀ k, k < l.length → ∃ b off a' c', a = some ⟨b, off, none⟩ ∧ w.cell? ⟨b, off + k, none⟩ = some (.slice a' (nth l k).length c') ∧ RU w a' (nth l k)
/-- A node of a formula. -/
structure Nd where
  op : Int
  i : Int
  e : Int
  g : Int
  x : Int
  y : Int
  deriving DecidableEq, Inhabited
def Nd.val (n : Nd) : Value := .agg #[.int .i64 n.op, .int .i64 n.i, .int .i64 n.e, .int .i64 n.g, .int .i64 n.x, .int .i64 n.y]
/-- Six cells hold a node. -/
def NdAt (w : World) (b o : Nat) (n : Nd) : Prop :=
  w.cell? ⟨b, o, none⟩ = some (.int .i64 n.op) ∧ w.cell? ⟨b, o + 1, none⟩ = some (.int .i64 n.i) ∧ w.cell? ⟨b, o + 2, none⟩ = some (.int .i64 n.e) ∧
  w.cell? ⟨b, o + 3, none⟩ = some (.int .i64 n.g) ∧ w.cell? ⟨b, o + 4, none⟩ = some (.int .i64 n.x) ∧ w.cell? ⟨b, o + 5, none⟩ = some (.int .i64 n.y)
/-- A slice of nodes. -/
structure RN (w : World) (a : Option Addr) (l : List Nd) : Prop where
  len : l.length ≤ 140737488355328
  at_ : ∀ k, k < l.length → ∃ b off, a = some ⟨b, off, none⟩ ∧ NdAt w b (off + k * 6) (nth l k)
/-- A slice of slices of nodes. -/
structure RF (w : World) (a : Option Addr) (l : List (List Nd)) : Prop where
  len : l.length ≤ 140737488355328
  at_ : ∀ k, k < l.length → ∃ b off a' c', a = some ⟨b, off, none⟩ ∧ w.cell? ⟨b, off + k, none⟩ = some (.slice a' (nth l k).length c') ∧ RN w a' (nth l k)

section
variable {w w' : World} (h : Ext w w')
include h
theorem RU.ext {a : Option Addr} {l : List (BitVec 64)} (r : RU w a l) : RU w' a l := ⟨r.len, fun k hk => let ⟨b, off, e, c⟩ := r.at_ k hk; ⟨b, off, e, h.cell c⟩⟩
theorem RI.ext {a : Option Addr} {l : List Int} (r : RI w a l) : RI w' a l := ⟨r.len, fun k hk => let ⟨b, off, e, c⟩ := r.at_ k hk; ⟨b, off, e, h.cell c⟩⟩
theorem RB.ext {a : Option Addr} {l : List Bool} (r : RB w a l) : RB w' a l := ⟨r.len, fun k hk => let ⟨b, off, e, c⟩ := r.at_ k hk; ⟨b, off, e, h.cell c⟩⟩
theorem RR.ext {a : Option Addr} {l : List (List (BitVec 64))} (r : RR w a l) : RR w' a l := ⟨r.len, fun k hk =>
  let ⟨b, off, a', c', e, c, u⟩ := r.at_ k hk; ⟨b, off, a', c', e, h.cell c, u.ext h⟩⟩
theorem NdAt.ext {b o : Nat} {n : Nd} (r : NdAt w b o n) : NdAt w' b o n :=
  ⟨h.cell r.1, h.cell r.2.1, h.cell r.2.2.1, h.cell r.2.2.2.1, h.cell r.2.2.2.2.1, h.cell r.2.2.2.2.2⟩
theorem RN.ext {a : Option Addr} {l : List Nd} (r : RN w a l) : RN w' a l := ⟨r.len, fun k hk => let ⟨b, off, e, c⟩ := r.at_ k hk; ⟨b, off, e, c.ext h⟩⟩
theorem RF.ext {a : Option Addr} {l : List (List Nd)} (r : RF w a l) : RF w' a l := ⟨r.len, fun k hk =>
  let ⟨b, off, a', c', e, c, u⟩ := r.at_ k hk; ⟨b, off, a', c', e, h.cell c, u.ext h⟩⟩
end
section
variable {w : World}
theorem RU.get {a : Option Addr} {l : List (BitVec 64)} (r : RU w a l) {k : Nat} (hk : k < l.length) :
    ∃ b off, a = some ⟨b, off, none⟩ ∧ b < w.heap.size ∧ w.cell? ⟨b, off + k, none⟩ = some (.int .u64 (un (nth l k))) :=
  let ⟨b, off, e, c⟩ := r.at_ k hk; ⟨b, off, e, World.block_lt_of_cell? w _ c, c⟩
theorem RI.get {a : Option Addr} {l : List Int} (r : RI w a l) {k : Nat} (hk : k < l.length) :
    ∃ b off, a = some ⟨b, off, none⟩ ∧ b < w.heap.size ∧ w.cell? ⟨b, off + k, none⟩ = some (.int .i64 (nth l k)) :=
  let ⟨b, off, e, c⟩ := r.at_ k hk; ⟨b, off, e, World.block_lt_of_cell? w _ c, c⟩
theorem RB.get {a : Option Addr} {l : List Bool} (r : RB w a l) {k : Nat} (hk : k < l.length) :
    ∃ b off, a = some ⟨b, off, none⟩ ∧ b < w.heap.size ∧ w.cell? ⟨b, off + k, none⟩ = some (.bool (nth l k)) :=
  let ⟨b, off, e, c⟩ := r.at_ k hk; ⟨b, off, e, World.block_lt_of_cell? w _ c, c⟩
theorem RR.get {a : Option Addr} {l : List (List (BitVec 64))} (r : RR w a l) {k : Nat} (hk : k < l.length) :
    ∃ b off a' c', a = some ⟨b, off, none⟩ ∧ b < w.heap.size ∧ w.cell? ⟨b, off + k, none⟩ = some (.slice a' (nth l k).length c') ∧ RU w a' (nth l k) :=
  let ⟨b, off, a', c', e, c, u⟩ := r.at_ k hk; ⟨b, off, a', c', e, World.block_lt_of_cell? w _ c, c, u⟩
theorem RN.get {a : Option Addr} {l : List Nd} (r : RN w a l) {k : Nat} (hk : k < l.length) :
    ∃ b off, a = some ⟨b, off, none⟩ ∧ b < w.heap.size ∧ NdAt w b (off + k * 6) (nth l k) :=
  let ⟨b, off, e, c⟩ := r.at_ k hk; ⟨b, off, e, World.block_lt_of_cell? w _ c.1, c⟩
theorem RF.get {a : Option Addr} {l : List (List Nd)} (r : RF w a l) {k : Nat} (hk : k < l.length) :
    ∃ b off a' c', a = some ⟨b, off, none⟩ ∧ b < w.heap.size ∧ w.cell? ⟨b, off + k, none⟩ = some (.slice a' (nth l k).length c') ∧ RN w a' (nth l k) :=
  let ⟨b, off, a', c', e, c, u⟩ := r.at_ k hk; ⟨b, off, a', c', e, World.block_lt_of_cell? w _ c, c, u⟩
end
theorem RU.nil (w : World) (a : Option Addr) : RU w a [] := ⟨by simp, fun _ hk => absurd hk (by simp)⟩
theorem RI.nil (w : World) (a : Option Addr) : RI w a [] := ⟨by simp, fun _ hk => absurd hk (by simp)⟩
theorem RB.nil (w : World) (a : Option Addr) : RB w a [] := ⟨by simp, fun _ hk => absurd hk (by simp)⟩
theorem RR.nil (w : World) (a : Option Addr) : RR w a [] := ⟨by simp, fun _ hk => absurd hk (by simp)⟩
theorem RN.nil (w : World) (a : Option Addr) : RN w a [] := ⟨by simp, fun _ hk => absurd hk (by simp)⟩
theorem RF.nil (w : World) (a : Option Addr) : RF w a [] := ⟨by simp, fun _ hk => absurd hk (by simp)⟩

theorem any_yes {α : Type} [Inhabited α] {l : List α} {p : α → Bool} {k : Nat} (hk : k < l.length) (h : p (nth l k) = true) : l.any p = true := by
  rw [nth_eq l k hk] at h
  exact List.any_eq_true.2 ⟨_, List.getElem_mem hk, h⟩
theorem any_no {α : Type} [Inhabited α] {l : List α} {p : α → Bool} (h : ∀ k, k < l.length → p (nth l k) = false) : l.any p = false := by
  rw [List.any_eq_false]
  intro x hx
  obtain ⟨k, hk, rfl⟩ := List.mem_iff_getElem.1 hx
  have := h k hk
  rw [nth_eq l k hk] at this
  simp [this]
theorem lt_step {P : Nat → Prop} {k : Nat} (h : ∀ j, j < k → P j) (hk : P k) : ∀ j, j < k + 1 → P j := fun j hj => by
  rcases Nat.lt_or_ge j k with h1 | h1
  · exact h j h1
  · obtain rfl : j = k := by omega
    exact hk

/-! Sets of worlds: Go's uint64 as BitVec 64, behind a name that simp does not open. -/
/-- Is a world in a set? -/
def bt (s : BitVec 64) (n : Nat) : Bool := s.getLsbD n
theorem un_inj {s t : BitVec 64} : un s = un t ↔ s = t := by
  unfold un; rw [← BitVec.toNat_inj]; omega
theorem un_zero : un 0#64 = 0 := rfl
theorem un_one : un 1#64 = 1 := rfl
theorem un_lit (n : Nat) (h : n < 18446744073709551616) : un (BitVec.ofNat 64 n) = (n : Int) := by
  unfold un; rw [BitVec.toNat_ofNat, Nat.mod_eq_of_lt h]
theorem un_max : un 18446744073709551615#64 = 18446744073709551615 := un_lit 18446744073709551615 (by omega)
theorem un_nonneg (s : BitVec 64) : 0 ≤ un s := Int.natCast_nonneg _
theorem un_le (s : BitVec 64) : un s ≤ 18446744073709551615 := by have := s.isLt; unfold un; omega
theorem ofInt_un (s : BitVec 64) : BitVec.ofInt 64 (un s) = s := by simp [un]
theorem wrap_un (s : BitVec 64) : IntKind.u64.wrap (s.toNat : Int) = un s := by
  have := s.isLt
  unfold un
  rw [IntKind.wrap_u64]; omega
section
variable (s t : BitVec 64)
@[go_sem] theorem bv_and : bits .and .u64 (un s) (un t) = un (s &&& t) := by
  show IntKind.u64.wrap ((BitVec.ofInt 64 (un s) &&& BitVec.ofInt 64 (un t)).toNat : Int) = _
  rw [ofInt_un, ofInt_un, wrap_un]
@[go_sem] theorem bv_or : bits .or .u64 (un s) (un t) = un (s ||| t) := by
  show IntKind.u64.wrap ((BitVec.ofInt 64 (un s) ||| BitVec.ofInt 64 (un t)).toNat : Int) = _
  rw [ofInt_un, ofInt_un, wrap_un]
@[go_sem] theorem bv_xor : bits .xor .u64 (un s) (un t) = un (s ^^^ t) := by
  show IntKind.u64.wrap ((BitVec.ofInt 64 (un s) ^^^ BitVec.ofInt 64 (un t)).toNat : Int) = _
  rw [ofInt_un, ofInt_un, wrap_un]
@[go_sem] theorem bv_andNot : bits .andNot .u64 (un s) (un t) = un (s &&& ~~~t) := by
  show IntKind.u64.wrap ((BitVec.ofInt 64 (un s) &&& ~~~BitVec.ofInt 64 (un t)).toNat : Int) = _
  rw [ofInt_un, ofInt_un, wrap_un]
@[go_sem] theorem bv_and1 : bits .and .u64 (un s) 1 = un (s &&& 1#64) := bv_and s 1#64
@[go_sem] theorem bv_beq0 : (un s == 0) = (s == 0#64) := by
  rw [Bool.eq_iff_iff]; simp only [beq_iff_eq]; exact un_inj (t := 0#64)
@[go_sem] theorem bv_bne0 : (un s != 0) = (s != 0#64) := by
  rw [bne, bv_beq0]; rfl
@[go_sem] theorem bv_beq1 : (un s == 1) = (s == 1#64) := by
  rw [Bool.eq_iff_iff]; simp only [beq_iff_eq]; exact un_inj (t := 1#64)
@[go_sem] theorem bv_bne1 : (un s != 1) = (s != 1#64) := by
  rw [bne, bv_beq1]; rfl
@[go_sem] theorem bv_beq : (un s == un t) = (s == t) := by
  rw [Bool.eq_iff_iff]; simp only [beq_iff_eq]; exact un_inj
@[go_sem] theorem bv_bne : (un s != un t) = (s != t) := by
  rw [bne, bv_beq]; rfl
theorem bv_shl_eq (n : Nat) : IntKind.u64.wrap (un s * 2 ^ min n 64) = un (s <<< n) := by
  unfold un
  rw [IntKind.wrap_u64, BitVec.toNat_shiftLeft, Nat.shiftLeft_eq, Int.natCast_emod, Int.natCast_mul]
  by_cases h : n ≤ 64
  · rw [Nat.min_eq_left h]; simp
  · rw [Nat.min_eq_right (by omega)]
    have e : n = 64 + (n - 64) := by omega
    rw [e, Nat.pow_add]
    simp [Int.mul_emod_left, ← Int.mul_assoc]
    have h2 : ((s.toNat : Int) * 18446744073709551616 * 2 ^ (n - 64)) % 18446744073709551616 = 0 := by
      rw [Int.mul_assoc, Int.mul_comm (18446744073709551616 : Int), ← Int.mul_assoc]
      exact Int.mul_emod_left _ _
    omega
@[go_sem ↓] theorem shift_shl_bv (yk : IntKind) (n : Nat) : Op.shift .shl .u64 (un s) yk (n : Int) = pure (.int .u64 (un (s <<< n))) := by
  have h : ¬ ((n : Int) < 0) := by omega
  have hb : IntKind.u64.bits = 64 := rfl
  simp only [Op.shift, h, if_false, Int.toNat_natCast, hb]
  rw [bv_shl_eq]
@[go_sem ↓] theorem shift_shl_one (yk : IntKind) (n : Nat) : Op.shift .shl .u64 1 yk (n : Int) = pure (.int .u64 (un (1#64 <<< n))) := shift_shl_bv 1#64 yk n
@[go_sem ↓] theorem shift_shr_bv (yk : IntKind) (n : Nat) : Op.shift .shr .u64 (un s) yk (n : Int) = pure (.int .u64 (un (s >>> n))) := by
  have h : ¬ ((n : Int) < 0) := by omega
  have hb : IntKind.u64.bits = 64 := rfl
  simp only [Op.shift, h, if_false, Int.toNat_natCast, hb]
  have e : (un s).fdiv (2 ^ min n 64) = un (s >>> n) := by
    unfold un
    rw [Int.fdiv_eq_ediv_of_nonneg _ (Int.le_of_lt (Int.pow_pos (by decide))), BitVec.toNat_ushiftRight, Nat.shiftRight_eq_div_pow]
    by_cases h : n ≤ 64
    · rw [Nat.min_eq_left h]; simp
    · rw [Nat.min_eq_right (by omega)]
      have hs := s.isLt
      have h1 : s.toNat / 2 ^ n = 0 := Nat.div_eq_of_lt (Nat.lt_of_lt_of_le hs (Nat.pow_le_pow_right (by decide) (by omega)))
      rw [h1]
      have : ((s.toNat : Int) / 2 ^ 64) = ((s.toNat / 2 ^ 64 : Nat) : Int) := by simp
      rw [this, Nat.div_eq_of_lt hs]
  rw [e]
@[go_sem ↓] theorem rem_two_bv : Op.intDiv .rem .u64 (un s) 2 = pure (.int .u64 (un (s &&& 1#64))) := by
  have hs := s.isLt
  have e : (s &&& 1#64).toNat = s.toNat % 2 := by simp
  have e2 : un (s &&& 1#64) = un s % 2 := by unfold un; rw [e]; omega
  rw [e2]
  have e3 : (un s).tmod 2 = un s % 2 := Int.tmod_eq_emod_of_nonneg (un_nonneg s)
  rw [← e3]
  simp [Op.intDiv]
@[go_sem] theorem bit_eq1 (n : Nat) : ((s >>> n &&& 1#64) == 1#64) = bt s n := by
  unfold bt
  rw [Bool.eq_iff_iff, beq_iff_eq]
  constructor
  · intro h
    have := congrArg (fun x => BitVec.getLsbD x 0) h
    simpa using this
  · intro h
    ext i hi
    by_cases h0 : i = 0
    · subst h0; simpa using h
    · simp [h0]
@[go_sem] theorem bit_eq0 (n : Nat) : ((s >>> n &&& 1#64) == 0#64) = !bt s n := by
  unfold bt
  rw [Bool.eq_iff_iff, beq_iff_eq]
  constructor
  · intro h
    have := congrArg (fun x => BitVec.getLsbD x 0) h
    simpa using this
  · intro h
    ext i hi
    by_cases h0 : i = 0
    · subst h0; simpa using h
    · simp [h0]
@[go_sem] theorem bit_ne1 (n : Nat) : ((s >>> n &&& 1#64) != 1#64) = !bt s n := by rw [bne, bit_eq1]
@[go_sem] theorem bit_ne0 (n : Nat) : ((s >>> n &&& 1#64) != 0#64) = bt s n := by rw [bne, bit_eq0, Bool.not_not]
@[go_sem] theorem u64_signed : IntKind.u64.signed = false := rfl
@[go_sem] theorem bits_xor_max : bits .xor .u64 IntKind.u64.max (un s) = un (~~~ s) := by
  have h : IntKind.u64.max = un 18446744073709551615#64 := by rw [un_max]; rfl
  have e : (18446744073709551615#64 : BitVec 64) = BitVec.allOnes 64 := by decide
  rw [h, bv_xor, e, BitVec.allOnes_xor]
@[go_sem ↓] theorem unary_xor_bv : Op.unary .xor (.int .u64 (un s)) = pure (.int .u64 (un (~~~ s))) := by
  rw [unary_xor]
  have h : (if IntKind.u64.signed = true then -1 else IntKind.u64.max) = un 18446744073709551615#64 := by rw [un_max]; rfl
  have e : (18446744073709551615#64 : BitVec 64) = BitVec.allOnes 64 := by decide
  rw [h, intBits_xor, bv_xor, e, BitVec.allOnes_xor]
@[go_sem] theorem bv_sub : IntKind.u64.wrap (un s - un t) = un (s - t) := by
  have hs := s.isLt
  have ht := t.isLt
  unfold un
  rw [IntKind.wrap_u64, BitVec.toNat_sub]
  omega
@[go_sem] theorem bv_sub1 : IntKind.u64.wrap (un s - 1) = un (s - 1#64) := bv_sub s 1#64
@[go_sem] theorem bv_add : IntKind.u64.wrap (un s + un t) = un (s + t) := by
  have hs := s.isLt
  have ht := t.isLt
  unfold un
  rw [IntKind.wrap_u64, BitVec.toNat_add]
  omega
@[go_sem] theorem bv_add1 : IntKind.u64.wrap (un s + 1) = un (s + 1#64) := bv_add s 1#64
end
/-! Masks: Go's int, as a natural number. -/
def sr (g n : Nat) : Int := ((g >>> n : Nat) : Int)
def b01 (g n : Nat) : Int := if g.testBit n then 1 else 0
@[go_sem ↓] theorem shift_shr_nat (yk : IntKind) (g n : Nat) (hg : g < 9223372036854775808) : Op.shift .shr .i64 (g : Int) yk (n : Int) = pure (.int .i64 (sr g n)) := by
  have h : ¬ ((n : Int) < 0) := by omega
  have hb : IntKind.i64.bits = 64 := rfl
  simp only [Op.shift, h, if_false, Int.toNat_natCast, hb, sr]
  have e : (g : Int).fdiv (2 ^ min n 64) = ((g >>> n : Nat) : Int) := by
    rw [Int.fdiv_eq_ediv_of_nonneg _ (Int.le_of_lt (Int.pow_pos (by decide))), Nat.shiftRight_eq_div_pow]
    by_cases h : n ≤ 64
    · rw [Nat.min_eq_left h]; simp
    · rw [Nat.min_eq_right (by omega)]
      have h1 : g / 2 ^ n = 0 := Nat.div_eq_of_lt (Nat.lt_of_lt_of_le (show g < 2 ^ 64 by omega) (Nat.pow_le_pow_right (by decide) (by omega)))
      rw [h1]
      have : ((g : Int) / 2 ^ 64) = ((g / 2 ^ 64 : Nat) : Int) := by simp
      rw [this, Nat.div_eq_of_lt (by omega)]
  rw [e]
/-- Two to the n. -/
def p2 (n : Nat) : Int := ((2 ^ n : Nat) : Int)
@[go_sem ↓] theorem shift_shl_one_i64 (yk : IntKind) (n : Nat) (hn : n < 63) : Op.shift .shl .i64 1 yk (n : Int) = pure (.int .i64 (p2 n)) := by
  have h : ¬ ((n : Int) < 0) := by omega
  have hb : IntKind.i64.bits = 64 := rfl
  simp only [Op.shift, h, if_false, Int.toNat_natCast, hb, Int.one_mul]
  have h2 : 2 ^ n ≤ 2 ^ 62 := Nat.pow_le_pow_right (by omega) (by omega)
  have e : (2 : Int) ^ min n 64 = ((2 ^ n : Nat) : Int) := by rw [Nat.min_eq_left (by omega)]; simp
  have h3 : ((2 ^ n : Nat) : Int) ≤ 4611686018427387904 := by omega
  have h4 : (0 : Int) ≤ ((2 ^ n : Nat) : Int) := Int.natCast_nonneg _
  rw [e]
  unfold p2
  generalize ((2 ^ n : Nat) : Int) = z at h3 h4 ⊢
  have e2 : IntKind.i64.wrap z = z := IntWalk.i64_in z (by omega)
  rw [e2]
theorem testBit_b01 (g n : Nat) : ((g >>> n % 2 : Nat) : Int) = b01 g n := by
  unfold b01
  rw [Nat.testBit_eq_decide_div_mod_eq, Nat.shiftRight_eq_div_pow]
  by_cases h : g / 2 ^ n % 2 = 1
  · simp [h]
  · have : g / 2 ^ n % 2 = 0 := by omega
    simp [this]
@[go_sem] theorem sr_and1 (g n : Nat) : bits .and .i64 (sr g n) 1 = b01 g n := by
  rw [← testBit_b01]
  show IntKind.i64.wrap ((BitVec.ofInt 64 (sr g n) &&& BitVec.ofInt 64 1).toNat : Int) = _
  have e : (BitVec.ofInt 64 (sr g n) &&& BitVec.ofInt 64 1).toNat = g >>> n % 2 := by
    unfold sr
    rw [BitVec.ofInt_natCast]
    have : BitVec.ofInt 64 1 = 1#64 := by decide
    rw [this, BitVec.toNat_and]
    simp only [BitVec.toNat_ofNat]
    rw [show (1 : Nat) % 2 ^ 64 = 1 from rfl, Nat.and_one_is_mod]
    omega
  rw [e, IntKind.wrap_i64]
  have : g >>> n % 2 < 2 := Nat.mod_lt _ (by decide)
  omega
@[go_sem ↓] theorem sr_rem2 (g n : Nat) : Op.intDiv .rem .i64 (sr g n) 2 = pure (.int .i64 (b01 g n)) := by
  rw [← testBit_b01]
  have e : (sr g n).tmod 2 = ((g >>> n % 2 : Nat) : Int) := by
    unfold sr
    rw [Int.tmod_eq_emod_of_nonneg (Int.natCast_nonneg _)]
    omega
  rw [← e]
  simp [Op.intDiv]
theorem or_nat (a b : Nat) (ha : a < 4294967296) (hb : b < 4294967296) : bits .or .i64 (a : Int) (b : Int) = ((a ||| b : Nat) : Int) := by
  have hx : a ||| b < 2 ^ 32 := Nat.or_lt_two_pow (by omega) (by omega)
  have h1 : (BitVec.ofInt 64 (a : Int)).toNat = a := by rw [BitVec.ofInt_natCast, BitVec.toNat_ofNat]; exact Nat.mod_eq_of_lt (by omega)
  have h2 : (BitVec.ofInt 64 (b : Int)).toNat = b := by rw [BitVec.ofInt_natCast, BitVec.toNat_ofNat]; exact Nat.mod_eq_of_lt (by omega)
  show IntKind.i64.wrap ((BitVec.ofInt 64 (a : Int) ||| BitVec.ofInt 64 (b : Int)).toNat : Int) = _
  rw [BitVec.toNat_or, h1, h2, IntKind.wrap_i64]
  omega
theorem and_nat (a b : Nat) (ha : a < 4294967296) (hb : b < 4294967296) : bits .and .i64 (a : Int) (b : Int) = ((a &&& b : Nat) : Int) := by
  have hx : a &&& b < 2 ^ 32 := Nat.and_lt_two_pow _ (by omega)
  have h1 : (BitVec.ofInt 64 (a : Int)).toNat = a := by rw [BitVec.ofInt_natCast, BitVec.toNat_ofNat]; exact Nat.mod_eq_of_lt (by omega)
  have h2 : (BitVec.ofInt 64 (b : Int)).toNat = b := by rw [BitVec.ofInt_natCast, BitVec.toNat_ofNat]; exact Nat.mod_eq_of_lt (by omega)
  show IntKind.i64.wrap ((BitVec.ofInt 64 (a : Int) &&& BitVec.ofInt 64 (b : Int)).toNat : Int) = _
  rw [BitVec.toNat_and, h1, h2, IntKind.wrap_i64]
  omega
theorem andNot_nat (a b : Nat) (ha : a < 4294967296) (hb : b < 4294967296) : bits .andNot .i64 (a : Int) (b : Int) = ((a &&& (4294967295 - b) : Nat) : Int) := by
  have hx : a &&& (4294967295 - b) < 2 ^ 32 := Nat.and_lt_two_pow _ (by omega)
  have h1 : BitVec.ofInt 64 (a : Int) = BitVec.ofNat 64 a := BitVec.ofInt_natCast ..
  have h2 : BitVec.ofInt 64 (b : Int) = BitVec.ofNat 64 b := BitVec.ofInt_natCast ..
  have h3 : (BitVec.ofNat 64 a &&& ~~~ BitVec.ofNat 64 b) = BitVec.ofNat 64 (a &&& (4294967295 - b)) := by
    apply BitVec.eq_of_getLsbD_eq
    intro i hi
    simp only [BitVec.getLsbD_and, BitVec.getLsbD_not, BitVec.getLsbD_ofNat, Nat.testBit_and]
    have hb2 : b < 2 ^ 32 := by omega
    have e : (4294967295 - b) = 2 ^ 32 - (b + 1) := by omega
    rw [e, Nat.testBit_two_pow_sub_succ hb2]
    by_cases h : i < 32
    · simp [h, hi]
    · have : a.testBit i = false := Nat.testBit_lt_two_pow (Nat.lt_of_lt_of_le (show a < 2 ^ 32 by omega) (Nat.pow_le_pow_right (by decide) (by omega)))
      simp [this]
  show IntKind.i64.wrap ((BitVec.ofInt 64 (a : Int) &&& ~~~BitVec.ofInt 64 (b : Int)).toNat : Int) = _
  rw [h1, h2, h3, BitVec.toNat_ofNat, Nat.mod_eq_of_lt (by omega), IntKind.wrap_i64]
  omega
@[go_sem] theorem b01_eq0 (g n : Nat) : (b01 g n == 0) = !g.testBit n := by unfold b01; cases g.testBit n <;> rfl
@[go_sem] theorem b01_eq1 (g n : Nat) : (b01 g n == 1) = g.testBit n := by unfold b01; cases g.testBit n <;> rfl
@[go_sem] theorem b01_ne0 (g n : Nat) : (b01 g n != 0) = g.testBit n := by unfold b01; cases g.testBit n <;> rfl
@[go_sem] theorem b01_ne1 (g n : Nat) : (b01 g n != 1) = !g.testBit n := by unfold b01; cases g.testBit n <;> rfl
end Wt
