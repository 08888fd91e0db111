/- Base of this seat's walks: what the memory holds, in words that do not name the program; laws on sets of worlds as BitVec 64. -/
import Derived.WalkKit
import Derived.WalkSpells
import Derived.WalkLawsBesides
import Derived.Lib.Hide
import Derived.IntWalk
import Derived.Test.YtoacdccachhjdaaGreatDoorProg
namespace Wt
open Go Go.RowKit

/-- All that lay in memory is as it was; there may be more. -/
def Ext (w w' : World) : Prop := Below w.heap.size w w'
theorem Ext.refl (w : World) : Ext w w := Below.refl _ _
theorem Ext.trans {a b c : World} (h : Ext a b) (k : Ext b c) : Ext a c := Below.trans h (Below.mono k h.size)
theorem Ext.alloc {a w : World} (h : Ext a w) (o : Obj) : Ext a (w.alloc o) := Below.alloc h h.size o
theorem Ext.drew {a w : World} (h : Ext a w) : Ext a w.drew := Below.drew h
theorem Ext.drewN {a w : World} (h : Ext a w) (n : Nat) : Ext a (w.drewN n) := ⟨h.os, h.tape, h.output, h.size, h.block⟩
theorem Ext.setCell {a w : World} (h : Ext a w) {p : Addr} (hp : a.heap.size ≤ p.block) (u : Value) : Ext a (w.setCell p u) := Below.setCell h hp u
theorem Ext.size {a w : World} (h : Ext a w) : a.heap.size ≤ w.heap.size := Below.size h
theorem Ext.cell {w w' : World} (h : Ext w w') {p : Addr} {v : Value} (hp : w.cell? p = some v) : w'.cell? p = some v :=
  (Below.cell h (World.block_lt_of_cell? w p hp)).trans hp
theorem Ext.rules {W w1 : World} (hb : Ext W w1) : (∀ b o, b < W.heap.size → w1.cell? ⟨b, o, none⟩ = W.cell? ⟨b, o, none⟩) ∧ (∀ b o, b < W.heap.size → w1.frozen? ⟨b, o, none⟩ = W.frozen? ⟨b, o, none⟩) ∧ (∀ b : Nat, b < W.heap.size → b < w1.heap.size) :=
  ⟨fun b o h => Below.cell hb (p := ⟨b, o, none⟩) h, fun b o h => Below.frozen hb (p := ⟨b, o, none⟩) h, fun _b h => Nat.lt_of_lt_of_le h (Below.size hb)⟩

/-- The k-th of a list. -/
def nth {α : Type} [Inhabited α] (l : List α) (k : Nat) : α := l.getD k default
theorem nth_eq {α : Type} [Inhabited α] (l : List α) (k : Nat) (h : k < l.length) : nth l k = l[k] := by simp [nth, h]

/-- A set of worlds, as Go's uint64: behind a name that simp does not open. -/
def un (s : BitVec 64) : Int := (s.toNat : Int)
/-- A slice of sets of worlds. -/
structure RU (w : World) (a : Option Addr) (l : List (BitVec 64)) : Prop where
  len : l.length ≤ 140737488355328
  at_ : ∀ k, k < l.length → ∃ b off, a = some ⟨b, off, none⟩ ∧ w.cell? ⟨b, off + k, none⟩ = some (.int .u64 (un (nth l k)))
/-- A slice of numbers. -/
structure RI (w : World) (a : Option Addr) (l : List Int) : Prop where
  len : l.length ≤ 140737488355328
  at_ : ∀ k, k < l.length → ∃ b off, a = some ⟨b, off, none⟩ ∧ w.cell? ⟨b, off + k, none⟩ = some (.int .i64 (nth l k))
/-- A slice of truth values. -/
structure RB (w : World) (a : Option Addr) (l : List Bool) : Prop where
  len : l.length ≤ 140737488355328
  at_ : ∀ k, k < l.length → ∃ b off, a = some ⟨b, off, none⟩ ∧ w.cell? ⟨b, off + k, none⟩ = some (.bool (nth l k))
/-- A slice of slices of sets. -/
structure RR (w : World) (a : Option Addr) (l : List (List (BitVec 64))) : Prop where
  len : l.length ≤ 140737488355328
  at_ : ∀ k, k < l.length → ∃ b off a' c', a = some ⟨b, off, none⟩ ∧ w.cell? ⟨b, off + k, none⟩ = some (.slice a' (nth l k).length c') ∧ RU w a' (nth l k)
/-- A node of a formula. -/
structure Nd where
  op : Int
  i : Int
  e : Int
  g : Int
  x : Int
  y : Int
  deriving DecidableEq, Inhabited
def Nd.val (n : Nd) : Value := .agg #[.int .i64 n.op, .int .i64 n.i, .int .i64 n.e, .int .i64 n.g, .int .i64 n.x, .int .i64 n.y]
/-- Six cells hold a node. -/
def NdAt (w : World) (b o : Nat) (n : Nd) : Prop :=
  w.cell? ⟨b, o, none⟩ = some (.int .i64 n.op) ∧ w.cell? ⟨b, o + 1, none⟩ = some (.int .i64 n.i) ∧ w.cell? ⟨b, o + 2, none⟩ = some (.int .i64 n.e) ∧
  w.cell? ⟨b, o + 3, none⟩ = some (.int .i64 n.g) ∧ w.cell? ⟨b, o + 4, none⟩ = some (.int .i64 n.x) ∧ w.cell? ⟨b, o + 5, none⟩ = some (.int .i64 n.y)
/-- A slice of nodes. -/
structure RN (w : World) (a : Option Addr) (l : List Nd) : Prop where
  len : l.length ≤ 140737488355328
  at_ : ∀ k, k < l.length → ∃ b off, a = some ⟨b, off, none⟩ ∧ NdAt w b (off + k * 6) (nth l k)
/-- A slice of slices of nodes. -/
structure RF (w : World) (a : Option Addr) (l : List (List Nd)) : Prop where
  len : l.length ≤ 140737488355328
  at_ : ∀ k, k < l.length → ∃ b off a' c', a = some ⟨b, off, none⟩ ∧ w.cell? ⟨b, off + k, none⟩ = some (.slice a' (nth l k).length c') ∧ RN w a' (nth l k)

section
variable {w w' : World} (h : Ext w w')
include h
theorem RU.ext {a : Option Addr} {l : List (BitVec 64)} (r : RU w a l) : RU w' a l := ⟨r.len, fun k hk => let ⟨b, off, e, c⟩ := r.at_ k hk; ⟨b, off, e, h.cell c⟩⟩
theorem RI.ext {a : Option Addr} {l : List Int} (r : RI w a l) : RI w' a l := ⟨r.len, fun k hk => let ⟨b, off, e, c⟩ := r.at_ k hk; ⟨b, off, e, h.cell c⟩⟩
theorem RB.ext {a : Option Addr} {l : List Bool} (r : RB w a l) : RB w' a l := ⟨r.len, fun k hk => let ⟨b, off, e, c⟩ := r.at_ k hk; ⟨b, off, e, h.cell c⟩⟩
theorem RR.ext {a : Option Addr} {l : List (List (BitVec 64))} (r : RR w a l) : RR w' a l := ⟨r.len, fun k hk =>
  let ⟨b, off, a', c', e, c, u⟩ := r.at_ k hk; ⟨b, off, a', c', e, h.cell c, u.ext h⟩⟩
theorem NdAt.ext {b o : Nat} {n : Nd} (r : NdAt w b o n) : NdAt w' b o n :=
  ⟨h.cell r.1, h.cell r.2.1, h.cell r.2.2.1, h.cell r.2.2.2.1, h.cell r.2.2.2.2.1, h.cell r.2.2.2.2.2⟩
theorem RN.ext {a : Option Addr} {l : List Nd} (r : RN w a l) : RN w' a l := ⟨r.len, fun k hk => let ⟨b, off, e, c⟩ := r.at_ k hk; ⟨b, off, e, c.ext h⟩⟩
theorem RF.ext {a : Option Addr} {l : List (List Nd)} (r : RF w a l) : RF w' a l := ⟨r.len, fun k hk =>
  let ⟨b, off, a', c', e, c, u⟩ := r.at_ k hk; ⟨b, off, a', c', e, h.cell c, u.ext h⟩⟩
end
section
variable {w : World}
theorem RU.get {a : Option Addr} {l : List (BitVec 64)} (r : RU w a l) {k : Nat} (hk : k < l.length) :
    ∃ b off, a = some ⟨b, off, none⟩ ∧ b < w.heap.size ∧ w.cell? ⟨b, off + k, none⟩ = some (.int .u64 (un (nth l k))) :=
  let ⟨b, off, e, c⟩ := r.at_ k hk; ⟨b, off, e, World.block_lt_of_cell? w _ c, c⟩
theorem RI.get {a : Option Addr} {l : List Int} (r : RI w a l) {k : Nat} (hk : k < l.length) :
    ∃ b off, a = some ⟨b, off, none⟩ ∧ b < w.heap.size ∧ w.cell? ⟨b, off + k, none⟩ = some (.int .i64 (nth l k)) :=
  let ⟨b, off, e, c⟩ := r.at_ k hk; ⟨b, off, e, World.block_lt_of_cell? w _ c, c⟩
theorem RB.get {a : Option Addr} {l : List Bool} (r : RB w a l) {k : Nat} (hk : k < l.length) :
    ∃ b off, a = some ⟨b, off, none⟩ ∧ b < w.heap.size ∧ w.cell? ⟨b, off + k, none⟩ = some (.bool (nth l k)) :=
  let ⟨b, off, e, c⟩ := r.at_ k hk; ⟨b, off, e, World.block_lt_of_cell? w _ c, c⟩
theorem RR.get {a : Option Addr} {l : List (List (BitVec 64))} (r : RR w a l) {k : Nat} (hk : k < l.length) :
    ∃ b off a' c', a = some ⟨b, off, none⟩ ∧ b < w.heap.size ∧ w.cell? ⟨b, off + k, none⟩ = some (.slice a' (nth l k).length c') ∧ RU w a' (nth l k) :=
  let ⟨b, off, a', c', e, c, u⟩ := r.at_ k hk; ⟨b, off, a', c', e, World.block_lt_of_cell? w _ c, c, u⟩
theorem RN.get {a : Option Addr} {l : List Nd} (r : RN w a l) {k : Nat} (hk : k < l.length) :
    ∃ b off, a = some ⟨b, off, none⟩ ∧ b < w.heap.size ∧ NdAt w b (off + k * 6) (nth l k) :=
  let ⟨b, off, e, c⟩ := r.at_ k hk; ⟨b, off, e, World.block_lt_of_cell? w _ c.1, c⟩
theorem RF.get {a : Option Addr} {l : List (List Nd)} (r : RF w a l) {k : Nat} (hk : k < l.length) :
    ∃ b off a' c', a = some ⟨b, off, none⟩ ∧ b < w.heap.size ∧ w.cell? ⟨b, off + k, none⟩ = some (.slice a' (nth l k).length c') ∧ RN w a' (nth l k) :=
  let ⟨b, off, a', c', e, c, u⟩ := r.at_ k hk; ⟨b, off, a', c', e, World.block_lt_of_cell? w _ c, c, u⟩
end
theorem RU.nil (w : World) (a : Option Addr) : RU w a [] := ⟨by simp, fun _ hk => absurd hk (by simp)⟩
theorem RI.nil (w : World) (a : Option Addr) : RI w a [] := ⟨by simp, fun _ hk => absurd hk (by simp)⟩
theorem RB.nil (w : World) (a : Option Addr) : RB w a [] := ⟨by simp, fun _ hk => absurd hk (by simp)⟩
theorem RR.nil (w : World) (a : Option Addr) : RR w a [] := ⟨by simp, fun _ hk => absurd hk (by simp)⟩
theorem RN.nil (w : World) (a : Option Addr) : RN w a [] := ⟨by simp, fun _ hk => absurd hk (by simp)⟩
theorem RF.nil (w : World) (a : Option Addr) : RF w a [] := ⟨by simp, fun _ hk => absurd hk (by simp)⟩

theorem any_yes {α : Type} [Inhabited α] {l : List α} {p : α → Bool} {k : Nat} (hk : k < l.length) (h : p (nth l k) = true) : l.any p = true := by
  rw [nth_eq l k hk] at h
  exact List.any_eq_true.2 ⟨_, List.getElem_mem hk, h⟩
theorem any_no {α : Type} [Inhabited α] {l : List α} {p : α → Bool} (h : ∀ k, k < l.length → p (nth l k) = false) : l.any p = false := by
  rw [List.any_eq_false]
  intro x hx
  obtain ⟨k, hk, rfl⟩ := List.mem_iff_getElem.1 hx
  have := h k hk
  rw [nth_eq l k hk] at this
  simp [this]
theorem lt_step {P : Nat → Prop} {k : Nat} (h : ∀ j, j < k → P j) (hk : P k) : ∀ j, j < k + 1 → P j := fun j hj => by
  rcases Nat.lt_or_ge j k with h1 | h1
  · exact h j h1
  · obtain rfl : j = k := by omega
    exact hk

/-! Sets of worlds: Go's uint64 as BitVec 64, behind a name that simp does not open. -/
/-- Is a world in a set? -/
def bt (s : BitVec 64) (n : Nat) : Bool := s.getLsbD n
theorem un_inj {s t : BitVec 64} : un s = un t ↔ s = t := by
  unfold un; rw [← BitVec.toNat_inj]; omega
theorem un_zero : un 0#64 = 0 := rfl
theorem un_one : un 1#64 = 1 := rfl
theorem un_lit (n : Nat) (h : n < 18446744073709551616) : un (BitVec.ofNat 64 n) = (n : Int) := by
  unfold un; rw [BitVec.toNat_ofNat, Nat.mod_eq_of_lt h]
theorem un_max : un 18446744073709551615#64 = 18446744073709551615 := un_lit 18446744073709551615 (by omega)
theorem un_nonneg (s : BitVec 64) : 0 ≤ un s := Int.natCast_nonneg _
theorem un_le (s : BitVec 64) : un s ≤ 18446744073709551615 := by have := s.isLt; unfold un; omega
theorem ofInt_un (s : BitVec 64) : BitVec.ofInt 64 (un s) = s := by simp [un]
theorem wrap_un (s : BitVec 64) : IntKind.u64.wrap (s.toNat : Int) = un s := by
  have := s.isLt
  unfold un
  rw [IntKind.wrap_u64]; omega
section
variable (s t : BitVec 64)
@[go_sem] theorem bv_and : bits .and .u64 (un s) (un t) = un (s &&& t) := by
  show IntKind.u64.wrap ((BitVec.ofInt 64 (un s) &&& BitVec.ofInt 64 (un t)).toNat : Int) = _
  rw [ofInt_un, ofInt_un, wrap_un]
@[go_sem] theorem bv_or : bits .or .u64 (un s) (un t) = un (s ||| t) := by
  show IntKind.u64.wrap ((BitVec.ofInt 64 (un s) ||| BitVec.ofInt 64 (un t)).toNat : Int) = _
  rw [ofInt_un, ofInt_un, wrap_un]
@[go_sem] theorem bv_xor : bits .xor .u64 (un s) (un t) = un (s ^^^ t) := by
  show IntKind.u64.wrap ((BitVec.ofInt 64 (un s) ^^^ BitVec.ofInt 64 (un t)).toNat : Int) = _
  rw [ofInt_un, ofInt_un, wrap_un]
@[go_sem] theorem bv_andNot : bits .andNot .u64 (un s) (un t) = un (s &&& ~~~t) := by
  show IntKind.u64.wrap ((BitVec.ofInt 64 (un s) &&& ~~~BitVec.ofInt 64 (un t)).toNat : Int) = _
  rw [ofInt_un, ofInt_un, wrap_un]
@[go_sem] theorem bv_and1 : bits .and .u64 (un s) 1 = un (s &&& 1#64) := bv_and s 1#64
@[go_sem] theorem bv_beq0 : (un s == 0) = (s == 0#64) := by
  rw [Bool.eq_iff_iff]; simp only [beq_iff_eq]; exact un_inj (t := 0#64)
@[go_sem] theorem bv_bne0 : (un s != 0) = (s != 0#64) := by
  rw [bne, bv_beq0]; rfl
@[go_sem] theorem bv_beq1 : (un s == 1) = (s == 1#64) := by
  rw [Bool.eq_iff_iff]; simp only [beq_iff_eq]; exact un_inj (t := 1#64)
@[go_sem] theorem bv_bne1 : (un s != 1) = (s != 1#64) := by
  rw [bne, bv_beq1]; rfl
@[go_sem] theorem bv_beq : (un s == un t) = (s == t) := by
  rw [Bool.eq_iff_iff]; simp only [beq_iff_eq]; exact un_inj
@[go_sem] theorem bv_bne : (un s != un t) = (s != t) := by
  rw [bne, bv_beq]; rfl
theorem bv_shl_eq (n : Nat) : IntKind.u64.wrap (un s * 2 ^ min n 64) = un (s <<< n) := by
  unfold un
  rw [IntKind.wrap_u64, BitVec.toNat_shiftLeft, Nat.shiftLeft_eq, Int.natCast_emod, Int.natCast_mul]
  by_cases h : n ≤ 64
  · rw [Nat.min_eq_left h]; simp
  · rw [Nat.min_eq_right (by omega)]
    have e : n = 64 + (n - 64) := by omega
    rw [e, Nat.pow_add]
    simp [Int.mul_emod_left, ← Int.mul_assoc]
    have h2 : ((s.toNat : Int) * 18446744073709551616 * 2 ^ (n - 64)) % 18446744073709551616 = 0 := by
      rw [Int.mul_assoc, Int.mul_comm (18446744073709551616 : Int), ← Int.mul_assoc]
      exact Int.mul_emod_left _ _
    omega
@[go_sem ↓] theorem shift_shl_bv (yk : IntKind) (n : Nat) : Op.shift .shl .u64 (un s) yk (n : Int) = pure (.int .u64 (un (s <<< n))) := by
  have h : ¬ ((n : Int) < 0) := by omega
  have hb : IntKind.u64.bits = 64 := rfl
  simp only [Op.shift, h, if_false, Int.toNat_natCast, hb]
  rw [bv_shl_eq]
@[go_sem ↓] theorem shift_shl_one (yk : IntKind) (n : Nat) : Op.shift .shl .u64 1 yk (n : Int) = pure (.int .u64 (un (1#64 <<< n))) := shift_shl_bv 1#64 yk n
@[go_sem ↓] theorem shift_shr_bv (yk : IntKind) (n : Nat) : Op.shift .shr .u64 (un s) yk (n : Int) = pure (.int .u64 (un (s >>> n))) := by
  have h : ¬ ((n : Int) < 0) := by omega
  have hb : IntKind.u64.bits = 64 := rfl
  simp only [Op.shift, h, if_false, Int.toNat_natCast, hb]
  have e : (un s).fdiv (2 ^ min n 64) = un (s >>> n) := by
    unfold un
    rw [Int.fdiv_eq_ediv_of_nonneg _ (Int.le_of_lt (Int.pow_pos (by decide))), BitVec.toNat_ushiftRight, Nat.shiftRight_eq_div_pow]
    by_cases h : n ≤ 64
    · rw [Nat.min_eq_left h]; simp
    · rw [Nat.min_eq_right (by omega)]
      have hs := s.isLt
      have h1 : s.toNat / 2 ^ n = 0 := Nat.div_eq_of_lt (Nat.lt_of_lt_of_le hs (Nat.pow_le_pow_right (by decide) (by omega)))
      rw [h1]
      have : ((s.toNat : Int) / 2 ^ 64) = ((s.toNat / 2 ^ 64 : Nat) : Int) := by simp
      rw [this, Nat.div_eq_of_lt hs]
  rw [e]
@[go_sem ↓] theorem rem_two_bv : Op.intDiv .rem .u64 (un s) 2 = pure (.int .u64 (un (s &&& 1#64))) := by
  have hs := s.isLt
  have e : (s &&& 1#64).toNat = s.toNat % 2 := by simp
  have e2 : un (s &&& 1#64) = un s % 2 := by unfold un; rw [e]; omega
  rw [e2]
  have e3 : (un s).tmod 2 = un s % 2 := Int.tmod_eq_emod_of_nonneg (un_nonneg s)
  rw [← e3]
  simp [Op.intDiv]
@[go_sem] theorem bit_eq1 (n : Nat) : ((s >>> n &&& 1#64) == 1#64) = bt s n := by
  unfold bt
  rw [Bool.eq_iff_iff, beq_iff_eq]
  constructor
  · intro h
    have := congrArg (fun x => BitVec.getLsbD x 0) h
    simpa using this
  · intro h
    ext i hi
    by_cases h0 : i = 0
    · subst h0; simpa using h
    · simp [h0]
@[go_sem] theorem bit_eq0 (n : Nat) : ((s >>> n &&& 1#64) == 0#64) = !bt s n := by
  unfold bt
  rw [Bool.eq_iff_iff, beq_iff_eq]
  constructor
  · intro h
    have := congrArg (fun x => BitVec.getLsbD x 0) h
    simpa using this
  · intro h
    ext i hi
    by_cases h0 : i = 0
    · subst h0; simpa using h
    · simp [h0]
@[go_sem] theorem bit_ne1 (n : Nat) : ((s >>> n &&& 1#64) != 1#64) = !bt s n := by rw [bne, bit_eq1]
@[go_sem] theorem bit_ne0 (n : Nat) : ((s >>> n &&& 1#64) != 0#64) = bt s n := by rw [bne, bit_eq0, Bool.not_not]
@[go_sem] theorem u64_signed : IntKind.u64.signed = false := rfl
@[go_sem] theorem bits_xor_max : bits .xor .u64 IntKind.u64.max (un s) = un (~~~ s) := by
  have h : IntKind.u64.max = un 18446744073709551615#64 := by rw [un_max]; rfl
  have e : (18446744073709551615#64 : BitVec 64) = BitVec.allOnes 64 := by decide
  rw [h, bv_xor, e, BitVec.allOnes_xor]
@[go_sem ↓] theorem unary_xor_bv : Op.unary .xor (.int .u64 (un s)) = pure (.int .u64 (un (~~~ s))) := by
  rw [unary_xor]
  have h : (if IntKind.u64.signed = true then -1 else IntKind.u64.max) = un 18446744073709551615#64 := by rw [un_max]; rfl
  have e : (18446744073709551615#64 : BitVec 64) = BitVec.allOnes 64 := by decide
  rw [h, intBits_xor, bv_xor, e, BitVec.allOnes_xor]
@[go_sem] theorem bv_sub : IntKind.u64.wrap (un s - un t) = un (s - t) := by
  have hs := s.isLt
  have ht := t.isLt
  unfold un
  rw [IntKind.wrap_u64, BitVec.toNat_sub]
  omega
@[go_sem] theorem bv_sub1 : IntKind.u64.wrap (un s - 1) = un (s - 1#64) := bv_sub s 1#64
@[go_sem] theorem bv_add : IntKind.u64.wrap (un s + un t) = un (s + t) := by
  have hs := s.isLt
  have ht := t.isLt
  unfold un
  rw [IntKind.wrap_u64, BitVec.toNat_add]
  omega
@[go_sem] theorem bv_add1 : IntKind.u64.wrap (un s + 1) = un (s + 1#64) := bv_add s 1#64
end
/-! Masks: Go's int, as a natural number. -/
def sr (g n : Nat) : Int := ((g >>> n : Nat) : Int)
def b01 (g n : Nat) : Int := if g.testBit n then 1 else 0
@[go_sem ↓] theorem shift_shr_nat (yk : IntKind) (g n : Nat) (hg : g < 9223372036854775808) : Op.shift .shr .i64 (g : Int) yk (n : Int) = pure (.int .i64 (sr g n)) := by
  have h : ¬ ((n : Int) < 0) := by omega
  have hb : IntKind.i64.bits = 64 := rfl
  simp only [Op.shift, h, if_false, Int.toNat_natCast, hb, sr]
  have e : (g : Int).fdiv (2 ^ min n 64) = ((g >>> n : Nat) : Int) := by
    rw [Int.fdiv_eq_ediv_of_nonneg _ (Int.le_of_lt (Int.pow_pos (by decide))), Nat.shiftRight_eq_div_pow]
    by_cases h : n ≤ 64
    · rw [Nat.min_eq_left h]; simp
    · rw [Nat.min_eq_right (by omega)]
      have h1 : g / 2 ^ n = 0 := Nat.div_eq_of_lt (Nat.lt_of_lt_of_le (show g < 2 ^ 64 by omega) (Nat.pow_le_pow_right (by decide) (by omega)))
      rw [h1]
      have : ((g : Int) / 2 ^ 64) = ((g / 2 ^ 64 : Nat) : Int) := by simp
      rw [this, Nat.div_eq_of_lt (by omega)]
  rw [e]
/-- Two to the n. -/
def p2 (n : Nat) : Int := ((2 ^ n : Nat) : Int)
@[go_sem ↓] theorem shift_shl_one_i64 (yk : IntKind) (n : Nat) (hn : n < 63) : Op.shift .shl .i64 1 yk (n : Int) = pure (.int .i64 (p2 n)) := by
  have h : ¬ ((n : Int) < 0) := by omega
  have hb : IntKind.i64.bits = 64 := rfl
  simp only [Op.shift, h, if_false, Int.toNat_natCast, hb, Int.one_mul]
  have h2 : 2 ^ n ≤ 2 ^ 62 := Nat.pow_le_pow_right (by omega) (by omega)
  have e : (2 : Int) ^ min n 64 = ((2 ^ n : Nat) : Int) := by rw [Nat.min_eq_left (by omega)]; simp
  have h3 : ((2 ^ n : Nat) : Int) ≤ 4611686018427387904 := by omega
  have h4 : (0 : Int) ≤ ((2 ^ n : Nat) : Int) := Int.natCast_nonneg _
  rw [e]
  unfold p2
  generalize ((2 ^ n : Nat) : Int) = z at h3 h4 ⊢
  have e2 : IntKind.i64.wrap z = z := IntWalk.i64_in z (by omega)
  rw [e2]
theorem testBit_b01 (g n : Nat) : ((g >>> n % 2 : Nat) : Int) = b01 g n := by
  unfold b01
  rw [Nat.testBit_eq_decide_div_mod_eq, Nat.shiftRight_eq_div_pow]
  by_cases h : g / 2 ^ n % 2 = 1
  · simp [h]
  · have : g / 2 ^ n % 2 = 0 := by omega
    simp [this]
@[go_sem] theorem sr_and1 (g n : Nat) : bits .and .i64 (sr g n) 1 = b01 g n := by
  rw [← testBit_b01]
  show IntKind.i64.wrap ((BitVec.ofInt 64 (sr g n) &&& BitVec.ofInt 64 1).toNat : Int) = _
  have e : (BitVec.ofInt 64 (sr g n) &&& BitVec.ofInt 64 1).toNat = g >>> n % 2 := by
    unfold sr
    rw [BitVec.ofInt_natCast]
    have : BitVec.ofInt 64 1 = 1#64 := by decide
    rw [this, BitVec.toNat_and]
    simp only [BitVec.toNat_ofNat]
    rw [show (1 : Nat) % 2 ^ 64 = 1 from rfl, Nat.and_one_is_mod]
    omega
  rw [e, IntKind.wrap_i64]
  have : g >>> n % 2 < 2 := Nat.mod_lt _ (by decide)
  omega
@[go_sem ↓] theorem sr_rem2 (g n : Nat) : Op.intDiv .rem .i64 (sr g n) 2 = pure (.int .i64 (b01 g n)) := by
  rw [← testBit_b01]
  have e : (sr g n).tmod 2 = ((g >>> n % 2 : Nat) : Int) := by
    unfold sr
    rw [Int.tmod_eq_emod_of_nonneg (Int.natCast_nonneg _)]
    omega
  rw [← e]
  simp [Op.intDiv]
theorem or_nat (a b : Nat) (ha : a < 4294967296) (hb : b < 4294967296) : bits .or .i64 (a : Int) (b : Int) = ((a ||| b : Nat) : Int) := by
  have hx : a ||| b < 2 ^ 32 := Nat.or_lt_two_pow (by omega) (by omega)
  have h1 : (BitVec.ofInt 64 (a : Int)).toNat = a := by rw [BitVec.ofInt_natCast, BitVec.toNat_ofNat]; exact Nat.mod_eq_of_lt (by omega)
  have h2 : (BitVec.ofInt 64 (b : Int)).toNat = b := by rw [BitVec.ofInt_natCast, BitVec.toNat_ofNat]; exact Nat.mod_eq_of_lt (by omega)
  show IntKind.i64.wrap ((BitVec.ofInt 64 (a : Int) ||| BitVec.ofInt 64 (b : Int)).toNat : Int) = _
  rw [BitVec.toNat_or, h1, h2, IntKind.wrap_i64]
  omega
theorem and_nat (a b : Nat) (ha : a < 4294967296) (hb : b < 4294967296) : bits .and .i64 (a : Int) (b : Int) = ((a &&& b : Nat) : Int) := by
  have hx : a &&& b < 2 ^ 32 := Nat.and_lt_two_pow _ (by omega)
  have h1 : (BitVec.ofInt 64 (a : Int)).toNat = a := by rw [BitVec.ofInt_natCast, BitVec.toNat_ofNat]; exact Nat.mod_eq_of_lt (by omega)
  have h2 : (BitVec.ofInt 64 (b : Int)).toNat = b := by rw [BitVec.ofInt_natCast, BitVec.toNat_ofNat]; exact Nat.mod_eq_of_lt (by omega)
  show IntKind.i64.wrap ((BitVec.ofInt 64 (a : Int) &&& BitVec.ofInt 64 (b : Int)).toNat : Int) = _
  rw [BitVec.toNat_and, h1, h2, IntKind.wrap_i64]
  omega
theorem andNot_nat (a b : Nat) (ha : a < 4294967296) (hb : b < 4294967296) : bits .andNot .i64 (a : Int) (b : Int) = ((a &&& (4294967295 - b) : Nat) : Int) := by
  have hx : a &&& (4294967295 - b) < 2 ^ 32 := Nat.and_lt_two_pow _ (by omega)
  have h1 : BitVec.ofInt 64 (a : Int) = BitVec.ofNat 64 a := BitVec.ofInt_natCast ..
  have h2 : BitVec.ofInt 64 (b : Int) = BitVec.ofNat 64 b := BitVec.ofInt_natCast ..
  have h3 : (BitVec.ofNat 64 a &&& ~~~ BitVec.ofNat 64 b) = BitVec.ofNat 64 (a &&& (4294967295 - b)) := by
    apply BitVec.eq_of_getLsbD_eq
    intro i hi
    simp only [BitVec.getLsbD_and, BitVec.getLsbD_not, BitVec.getLsbD_ofNat, Nat.testBit_and]
    have hb2 : b < 2 ^ 32 := by omega
    have e : (4294967295 - b) = 2 ^ 32 - (b + 1) := by omega
    rw [e, Nat.testBit_two_pow_sub_succ hb2]
    by_cases h : i < 32
    · simp [h, hi]
    · have : a.testBit i = false := Nat.testBit_lt_two_pow (Nat.lt_of_lt_of_le (show a < 2 ^ 32 by omega) (Nat.pow_le_pow_right (by decide) (by omega)))
      simp [this]
  show IntKind.i64.wrap ((BitVec.ofInt 64 (a : Int) &&& ~~~BitVec.ofInt 64 (b : Int)).toNat : Int) = _
  rw [h1, h2, h3, BitVec.toNat_ofNat, Nat.mod_eq_of_lt (by omega), IntKind.wrap_i64]
  omega
@[go_sem] theorem b01_eq0 (g n : Nat) : (b01 g n == 0) = !g.testBit n := by unfold b01; cases g.testBit n <;> rfl
@[go_sem] theorem b01_eq1 (g n : Nat) : (b01 g n == 1) = g.testBit n := by unfold b01; cases g.testBit n <;> rfl
@[go_sem] theorem b01_ne0 (g n : Nat) : (b01 g n != 0) = g.testBit n := by unfold b01; cases g.testBit n <;> rfl
@[go_sem] theorem b01_ne1 (g n : Nat) : (b01 g n != 1) = !g.testBit n := by unfold b01; cases g.testBit n <;> rfl
end Wt

/- Models: the plain functions that the walks name. -/
namespace Wt
open Go Go.RowKit
structure Mo where
  worlds : Int
  val : List (BitVec 64)
  rel : List (List (BitVec 64))
  deriving Inhabited, DecidableEq
/-- The first n worlds. -/
def allW (n : Nat) : BitVec 64 := if 64 ≤ n then 18446744073709551615#64 else (1#64 <<< n) - 1#64
def outOne (n : Nat) (s : BitVec 64) : Bool := (s &&& ~~~ allW n) != 0#64
def outL (n : Nat) (l : List (BitVec 64)) : Bool := l.any (outOne n)
/-- The error of a model. -/
def moCheck (M : Mo) : Int :=
  if M.worlds < 1 ∨ 64 < M.worlds then 2
  else if 4 < M.rel.length ∨ 8 < M.val.length then 8
  else if M.rel.any (fun r => (r.length : Int) != M.worlds) then 3
  else if outL M.worlds.toNat M.val || M.rel.any (outL M.worlds.toNat) then 2
  else 0
end Wt

/- Walks: model.all, outside, Check. -/
namespace Wt
open Go Go.RowKit Go.Proofs

set_option maxHeartbeats 1000000 in
theorem all_any (n : Nat) (w : World) :
    Calls Tryz.prog 147 #[.int .i64 (n : Int)] w fun e w' => e = .returned (.int .u64 (un (allW n))) ∧ w = w' := by
  by_cases h : 64 ≤ n
  · go_enter Tryz.func147, Tryz.ntmps147
    go_wp2
    go_ret
    exact ⟨by simp [allW, h, un_max], rfl⟩
  · go_enter Tryz.func147, Tryz.ntmps147
    go_wp2
    go_ret
    exact ⟨by simp [allW, h], rfl⟩
set_option maxHeartbeats 1000000 in
theorem indexFunc_u (F : Nat) (c : Value) (p : BitVec 64 → Bool) (a : Option Addr) (l : List (BitVec 64)) (cap : Nat) (w : World) (hr : RU w a l)
    (hF : ∀ args W, (callFunc F args).run Tryz.prog W = .ok (.enter F args) W)
    (hp : ∀ W s, Ext w W → Calls Tryz.prog F #[.int .u64 (un s), c] W fun e w' => e = .returned (.bool (p s)) ∧ Ext W w') :
    Calls Tryz.prog 179 #[.slice a l.length cap, .func (.func F) #[] #[c]] w fun e w' => (∃ i : Int, e = .returned (.int .i64 i) ∧ decide (0 ≤ i) = l.any p) ∧ Ext w w' := by
  have hl := hr.len
  have Hp := Lib.hid hp
  clear hp
  go_enter Tryz.func179, Tryz.ntmps179
  go_wp2
  go_loopw [8] (fun i wr => ∃ k : Nat, k ≤ l.length ∧ i = .int .i64 k ∧ Ext w wr ∧ Hid (∀ j, j < k → p (nth l j) = false)) (fun i _ => l.length - (intOf i).toNat)
  case atStart => exact ⟨0, Nat.zero_le _, rfl, Ext.refl _, fun _ h => absurd h (Nat.not_lt_zero _)⟩
  case round =>
    obtain ⟨k, hk, rfl, hE, hno⟩ := hrel
    by_cases hlt : k < l.length
    · obtain ⟨b, off, rfl, hc⟩ := (hr.ext hE).at_ k hlt
      go_wp2_with fail
      refine (Hp.out _ (nth l k) hE).mono ?_
      rintro e w1 ⟨rfl, hE1⟩
      cases hb : p (nth l k)
      all_goals have Hb := Lib.hid hb; clear hb
      · go_wp2
        go_roundw
        case rel => exact ⟨k + 1, hlt, by go_num, hE.trans hE1, lt_step hno Hb.out⟩
        case measure => simp [intOf]; omega
      · go_wp2
        go_ret
        exact ⟨⟨k, rfl, by rw [any_yes hlt Hb.out]; simp⟩, hE.trans hE1⟩
    · go_wp2
      go_ret
      exact ⟨⟨-1, rfl, by rw [any_no (fun j hj => hno j (by omega))]; rfl⟩, hE⟩
theorem cf_outside1 (args : Array Value) (W : World) : (callFunc 146 args).run Tryz.prog W = .ok (.enter 146 args) W := by
  simp [callFunc, Tryz.func146, Tryz.f146]
set_option maxHeartbeats 1000000 in
theorem containsFunc_u (F : Nat) (c : Value) (p : BitVec 64 → Bool) (a : Option Addr) (l : List (BitVec 64)) (cap : Nat) (w : World) (hr : RU w a l)
    (hF : ∀ args W, (callFunc F args).run Tryz.prog W = .ok (.enter F args) W)
    (hp : ∀ W s, Ext w W → Calls Tryz.prog F #[.int .u64 (un s), c] W fun e w' => e = .returned (.bool (p s)) ∧ Ext W w') :
    Calls Tryz.prog 145 #[.slice a l.length cap, .func (.func F) #[] #[c]] w fun e w' => e = .returned (.bool (l.any p)) ∧ Ext w w' := by
  have Hi := Lib.hid (indexFunc_u F c p a l cap w hr hF hp)
  clear hF hp
  go_enter Tryz.func145, Tryz.ntmps145
  go_wp2_with (go_at_call 179; refine (Hi.out).mono ?_; rintro e w1 ⟨⟨i, rfl, hi⟩, hE⟩; have HI := Lib.hid hi; clear hi)
  go_ret
  exact ⟨by rw [← HI.out]; simp, hE⟩
set_option maxHeartbeats 1000000 in
theorem outside1_any (n : Nat) (s : BitVec 64) (p : Addr) (w : World) (hp : w.cell? p = some (.int .i64 (n : Int))) :
    Calls Tryz.prog 146 #[.int .u64 (un s), .pointer (some p)] w fun e w' => e = .returned (.bool (outOne n s)) ∧ w = w' := by
  go_enter Tryz.func146, Tryz.ntmps146
  go_wp2_with (go_at_call 147; refine (all_any _ _).mono ?_; rintro e w1 ⟨rfl, rfl⟩)
  go_ret
  exact ⟨rfl, rfl⟩
set_option maxHeartbeats 1000000 in
theorem outside_any (n : Nat) (a : Option Addr) (l : List (BitVec 64)) (cap : Nat) (w : World) (hr : RU w a l) :
    Calls Tryz.prog 107 #[.slice a l.length cap, .int .i64 (n : Int)] w fun e w' => e = .returned (.bool (outL n l)) ∧ Ext w w' := by
  have Hc := Lib.hid (containsFunc_u 146 (.pointer (some ⟨w.heap.size, 0, none⟩)) (outOne n) a l cap (w.alloc (.cells #[.int .i64 (n : Int)] 3)) (hr.ext ((Ext.refl _).alloc _)) cf_outside1
    (fun W s hE => (outside1_any n s _ W (hE.cell (by simp))).mono fun e w' ⟨h1, h2⟩ => ⟨h1, h2 ▸ Ext.refl _⟩))
  go_enter Tryz.func107, Tryz.ntmps107
  go_wp2_with (go_at_call 145; refine (Hc.out).mono ?_; rintro e w1 ⟨rfl, hE⟩)
  go_ret
  exact ⟨rfl, ((Ext.refl w).alloc _).trans hE⟩
set_option maxHeartbeats 1000000 in
theorem modelCheck1_any (n : Nat) (a : Option Addr) (l : List (BitVec 64)) (cap : Nat) (b o : Nat) (w : World) (hp : w.cell? ⟨b, o, none⟩ = some (.int .i64 (n : Int))) (hr : RU w a l) :
    Calls Tryz.prog 108 #[.slice a l.length cap, .pointer (some ⟨b, o, none⟩)] w fun e w' => e = .returned (.bool (outL n l)) ∧ Ext w w' := by
  go_enter Tryz.func108, Tryz.ntmps108
  go_wp2_with (go_at_call 107; refine (outside_any _ _ _ _ _ hr).mono ?_; rintro e w1 ⟨rfl, hE⟩)
  go_ret
  exact ⟨rfl, hE⟩
theorem cf_modelCheck1 (args : Array Value) (W : World) : (callFunc 108 args).run Tryz.prog W = .ok (.enter 108 args) W := by
  simp [callFunc, Tryz.func108, Tryz.f108]
set_option maxHeartbeats 1000000 in
theorem indexFunc_r (F : Nat) (c : Value) (p : List (BitVec 64) → Bool) (a : Option Addr) (l : List (List (BitVec 64))) (cap : Nat) (w : World) (hr : RR w a l)
    (hF : ∀ args W, (callFunc F args).run Tryz.prog W = .ok (.enter F args) W)
    (hp : ∀ W a s c', Ext w W → RU W a s → Calls Tryz.prog F #[.slice a s.length c', c] W fun e w' => e = .returned (.bool (p s)) ∧ Ext W w') :
    Calls Tryz.prog 139 #[.slice a l.length cap, .func (.func F) #[] #[c]] w fun e w' => (∃ i : Int, e = .returned (.int .i64 i) ∧ decide (0 ≤ i) = l.any p) ∧ Ext w w' := by
  have hl := hr.len
  have Hp := Lib.hid hp
  clear hp
  go_enter Tryz.func139, Tryz.ntmps139
  go_wp2
  go_loopw [8] (fun i wr => ∃ k : Nat, k ≤ l.length ∧ i = .int .i64 k ∧ Ext w wr ∧ Hid (∀ j, j < k → p (nth l j) = false)) (fun i _ => l.length - (intOf i).toNat)
  case atStart => exact ⟨0, Nat.zero_le _, rfl, Ext.refl _, fun _ h => absurd h (Nat.not_lt_zero _)⟩
  case round =>
    obtain ⟨k, hk, rfl, hE, hno⟩ := hrel
    by_cases hlt : k < l.length
    · obtain ⟨b, off, a', c', rfl, hc, hu⟩ := (hr.ext hE).at_ k hlt
      go_wp2_with fail
      refine (Hp.out _ _ _ _ hE hu).mono ?_
      rintro e w1 ⟨rfl, hE1⟩
      cases hb : p (nth l k)
      all_goals have Hb := Lib.hid hb; clear hb
      · go_wp2
        go_roundw
        case rel => exact ⟨k + 1, hlt, by go_num, hE.trans hE1, lt_step hno Hb.out⟩
        case measure => simp [intOf]; omega
      · go_wp2
        go_ret
        exact ⟨⟨k, rfl, by rw [any_yes hlt Hb.out]; simp⟩, hE.trans hE1⟩
    · go_wp2
      go_ret
      exact ⟨⟨-1, rfl, by rw [any_no (fun j hj => hno j (by omega))]; rfl⟩, hE⟩
set_option maxHeartbeats 1000000 in
theorem containsFunc_r (F : Nat) (c : Value) (p : List (BitVec 64) → Bool) (a : Option Addr) (l : List (List (BitVec 64))) (cap : Nat) (w : World) (hr : RR w a l)
    (hF : ∀ args W, (callFunc F args).run Tryz.prog W = .ok (.enter F args) W)
    (hp : ∀ W a s c', Ext w W → RU W a s → Calls Tryz.prog F #[.slice a s.length c', c] W fun e w' => e = .returned (.bool (p s)) ∧ Ext W w') :
    Calls Tryz.prog 96 #[.slice a l.length cap, .func (.func F) #[] #[c]] w fun e w' => e = .returned (.bool (l.any p)) ∧ Ext w w' := by
  have Hi := Lib.hid (indexFunc_r F c p a l cap w hr hF hp)
  clear hF hp
  go_enter Tryz.func96, Tryz.ntmps96
  go_wp2_with (go_at_call 139; refine (Hi.out).mono ?_; rintro e w1 ⟨⟨i, rfl, hi⟩, hE⟩; have HI := Lib.hid hi; clear hi)
  go_ret
  exact ⟨by rw [← HI.out]; simp, hE⟩
end Wt

/- Walks: model.Check. -/
namespace Wt
open Go Go.RowKit Go.Proofs

/-- A model in memory: the value that is passed about. -/
structure RM (w : World) (va : Option Addr) (ra : Option Addr) (M : Mo) : Prop where
  val : RU w va M.val
  rel : RR w ra M.rel
theorem RM.ext {w w' : World} (h : Ext w w') {va ra : Option Addr} {M : Mo} (r : RM w va ra M) : RM w' va ra M := ⟨r.val.ext h, r.rel.ext h⟩
/-- Three cells hold a model. -/
structure MoBox (w : World) (b : Nat) (M : Mo) (va : Option Addr) (vc : Nat) (ra : Option Addr) (rc : Nat) : Prop where
  c0 : w.cell? ⟨b, 0, none⟩ = some (.int .i64 M.worlds)
  c1 : w.cell? ⟨b, 1, none⟩ = some (.slice va M.val.length vc)
  c2 : w.cell? ⟨b, 2, none⟩ = some (.slice ra M.rel.length rc)
theorem MoBox.ext {w w' : World} (h : Ext w w') {b : Nat} {M : Mo} {va : Option Addr} {vc : Nat} {ra : Option Addr} {rc : Nat} (r : MoBox w b M va vc ra rc) : MoBox w' b M va vc ra rc :=
  ⟨h.cell r.c0, h.cell r.c1, h.cell r.c2⟩
theorem MoBox.new (w : World) (W : Int) (V : List (BitVec 64)) (R : List (List (BitVec 64))) (va : Option Addr) (vc : Nat) (ra : Option Addr) (rc : Nat) (T : Nat) :
    MoBox (w.alloc (.cells #[.int .i64 W, .slice va V.length vc, .slice ra R.length rc] T)) w.heap.size ⟨W, V, R⟩ va vc ra rc :=
  ⟨by simp, by simp, by simp⟩
/-- The cells of a model. -/
def moV (M : Mo) (va : Option Addr) (vc : Nat) (ra : Option Addr) (rc : Nat) : Value :=
  .agg #[.int .i64 M.worlds, .slice va M.val.length vc, .slice ra M.rel.length rc]

set_option maxHeartbeats 2000000 in
theorem modelCheck_any (M : Mo) (va ra : Option Addr) (vc rc : Nat) (w : World) (hr : RM w va ra M) :
    Calls Tryz.prog 71 #[.agg #[.int .i64 M.worlds, .slice va M.val.length vc, .slice ra M.rel.length rc]] w fun e w' =>
      e = .returned (.int .i64 (moCheck M)) ∧ Ext w w' := by
  obtain ⟨W, V, R⟩ := M
  have hv := hr.val
  have hR := hr.rel
  have hvl := hv.len
  have hrl := hR.len
  clear hr
  dsimp only at *
  by_cases h1 : W < 1
  · have hn : moCheck ⟨W, V, R⟩ = 2 := by unfold moCheck; rw [if_pos (by simp [h1])]
    have HN := Lib.hid hn
    clear hn
    go_enter Tryz.func71, Tryz.ntmps71
    go_wp2
    go_ret
    exact ⟨by rw [HN.out]; rfl, (Ext.refl w).alloc _⟩
  · by_cases h2 : 64 < W
    · have hn : moCheck ⟨W, V, R⟩ = 2 := by unfold moCheck; rw [if_pos (by simp [h2])]
      have HN := Lib.hid hn
      clear hn
      go_enter Tryz.func71, Tryz.ntmps71
      go_wp2
      go_ret
      exact ⟨by rw [HN.out]; rfl, (Ext.refl w).alloc _⟩
    · obtain ⟨n, rfl⟩ := Int.eq_ofNat_of_zero_le (show 0 ≤ W by omega)
      by_cases h3 : 4 < R.length
      · have hn : moCheck ⟨n, V, R⟩ = 8 := by unfold moCheck; rw [if_neg (by simp; omega), if_pos (by simp [h3])]
        have HN := Lib.hid hn
        clear hn
        go_enter Tryz.func71, Tryz.ntmps71
        go_wp2
        go_ret
        exact ⟨by rw [HN.out]; rfl, (Ext.refl w).alloc _⟩
      · by_cases h4 : 8 < V.length
        · have hn : moCheck ⟨n, V, R⟩ = 8 := by unfold moCheck; rw [if_neg (by simp; omega), if_pos (by simp [h4])]
          have HN := Lib.hid hn
          clear hn
          go_enter Tryz.func71, Tryz.ntmps71
          go_wp2
          go_ret
          exact ⟨by rw [HN.out]; rfl, (Ext.refl w).alloc _⟩
        · have hn : moCheck ⟨n, V, R⟩ = if R.any (fun r => (r.length : Int) != n) then 3 else if outL n V || R.any (outL n) then 2 else 0 := by
            unfold moCheck; rw [if_neg (by simp; omega), if_neg (by simp; omega)]; simp
          have HN := Lib.hid hn
          clear hn
          go_enter Tryz.func71, Tryz.ntmps71
          go_wp2
          go_loop [26] (fun i => ∃ k : Nat, k ≤ R.length ∧ i = .int .i64 k ∧ Hid (∀ j, j < k → (((nth R j).length : Int) != n) = false)) (fun i => R.length - (intOf i).toNat)
          case atStart => exact ⟨0, Nat.zero_le _, rfl, fun _ h => absurd h (Nat.not_lt_zero _)⟩
          case round =>
            obtain ⟨k, hk, rfl, hno⟩ := hrel
            by_cases hlt : k < R.length
            · obtain ⟨b, off, a', c', rfl, hb, hc, hu⟩ := hR.get hlt
              have hul := hu.len
              by_cases hq : (((nth R k).length : Int) != n) = true
              · go_wp2
                go_ret
                refine ⟨?_, (Ext.refl w).alloc _⟩
                rw [HN.out, any_yes hlt hq]; rfl
              · have hq' : (((nth R k).length : Int) != n) = false := by simpa using hq
                clear hq
                go_wp2
                go_round
                case rel => exact ⟨k + 1, hlt, by go_num, lt_step hno hq'⟩
                case measure => simp [intOf]; omega
            · have hno2 : R.any (fun r => (r.length : Int) != n) = false := any_no (fun j hj => hno j (by omega))
              have HN2 := Lib.hid hno2
              clear hno2 hno
              have hE0 := (Ext.refl w).alloc (.cells #[.int .i64 (n : Int), .slice va V.length vc, .slice ra R.length rc] 28)
              have hv0 := hv.ext hE0
              have hR0 := hR.ext hE0
              have HE0 := Lib.hid hE0
              clear hE0
              go_wp2_with (first | (go_at_call 107; refine (outside_any _ _ _ _ _ hv0).mono ?_; rintro e w1 ⟨rfl, hE⟩; obtain ⟨hc1, hf1, hs1⟩ := hE.rules; cases hq : outL n V) | (go_at_call 96; refine (containsFunc_r 108 _ (outL n) _ _ _ _ (hR0.ext hE) cf_modelCheck1 (fun W a s c' hW hs => modelCheck1_any n a s c' _ _ W (hW.cell (by simp [*])) hs)).mono ?_; rintro e w2 ⟨rfl, hE2⟩))
              all_goals
                go_ret
                first
                  | exact ⟨by rw [HN.out, HN2.out]; simp [*], (HE0.out.trans hE).trans hE2⟩
                  | exact ⟨by rw [HN.out, HN2.out]; simp [*], HE0.out.trans hE⟩
end Wt

/- Walks: relation.all, Check, Box, Diamond. -/
namespace Wt
open Go Go.RowKit Go.Proofs

theorem not_un (s : BitVec 64) : IntKind.u64.wrap (((~~~ BitVec.ofInt 64 (un s)).toNat : Nat) : Int) = un (~~~ s) := by rw [ofInt_un, wrap_un]
/-- The points all of whose successors are in a set. -/
def boxTo (r : List (BitVec 64)) (s : BitVec 64) : Nat → BitVec 64
  | 0 => 0#64
  | k + 1 => if (nth r k &&& ~~~ s) = 0#64 then boxTo r s k ||| 1#64 <<< k else boxTo r s k
/-- The error of a relation. -/
def relBad (r : List (BitVec 64)) : Bool := outL r.length r
def relCheck (r : List (BitVec 64)) : Int := if 64 < r.length then 2 else if relBad r then 1 else 0
def relBox (r : List (BitVec 64)) (s : BitVec 64) : BitVec 64 := if relCheck r = 0 then boxTo r s r.length else 0#64
def relDia (r : List (BitVec 64)) (s : BitVec 64) : BitVec 64 := if relCheck r = 0 then allW r.length &&& ~~~ boxTo r (~~~ s) r.length else 0#64

set_option maxHeartbeats 1000000 in
theorem relAll_any (n : Nat) (w : World) :
    Calls Tryz.prog 168 #[.int .i64 (n : Int)] w fun e w' => e = .returned (.int .u64 (un (allW n))) ∧ w = w' := by
  by_cases h : 64 ≤ n
  · go_enter Tryz.func168, Tryz.ntmps168
    go_wp2
    go_ret
    exact ⟨by simp [allW, h, un_max], rfl⟩
  · go_enter Tryz.func168, Tryz.ntmps168
    go_wp2
    go_ret
    exact ⟨by simp [allW, h], rfl⟩
set_option maxHeartbeats 1000000 in
theorem relCheck_any (a : Option Addr) (r : List (BitVec 64)) (c : Nat) (w : World) (hr : RU w a r) :
    Calls Tryz.prog 140 #[.int .i64 (r.length : Int), .slice a r.length c] w fun e w' => e = .returned (.int .i64 (relCheck r)) ∧ w = w' := by
  have hl := hr.len
  by_cases h : 64 < r.length
  · have hn : relCheck r = 2 := if_pos h
    have HN := Lib.hid hn
    clear hn
    go_enter Tryz.func140, Tryz.ntmps140
    go_wp2
    go_ret
    exact ⟨by rw [HN.out]; rfl, rfl⟩
  · have hn : relCheck r = if relBad r then 1 else 0 := if_neg h
    have HN := Lib.hid hn
    clear hn
    have hne : ((r.length : Int) != (r.length : Int)) = false := by simp
    go_enter Tryz.func140, Tryz.ntmps140
    go_wp2
    go_loop [19] (fun i => ∃ k : Nat, k ≤ r.length ∧ i = .int .i64 k ∧ Hid (∀ j, j < k → outOne r.length (nth r j) = false)) (fun i => r.length - (intOf i).toNat)
    case atStart => exact ⟨0, Nat.zero_le _, rfl, fun _ h => absurd h (Nat.not_lt_zero _)⟩
    case round =>
      obtain ⟨k, hk, rfl, hno⟩ := hrel
      by_cases hlt : k < r.length
      · obtain ⟨b, off, rfl, hb, hc⟩ := hr.get hlt
        go_wp2_with (go_at_call 168; refine (relAll_any _ _).mono ?_; rintro e w1 ⟨rfl, rfl⟩)
        · go_ret
          have : relBad r = true := any_yes hlt (by assumption)
          exact ⟨by rw [HN.out, this]; rfl, rfl⟩
        · go_round
          case rel => exact ⟨k + 1, hlt, by go_num, lt_step hno (by assumption)⟩
          case measure => simp [intOf]; omega
      · have hno2 : relBad r = false := any_no (fun j hj => hno j (by omega))
        have HN2 := Lib.hid hno2
        clear hno2 hno
        go_wp2
        go_ret
        exact ⟨by rw [HN.out, HN2.out]; rfl, rfl⟩
set_option maxHeartbeats 1000000 in
theorem relBox_any (a : Option Addr) (r : List (BitVec 64)) (c : Nat) (s : BitVec 64) (w : World) (hr : RU w a r) :
    Calls Tryz.prog 174 #[.slice a r.length c, .int .u64 (un s)] w fun e w' => e = .returned (.int .u64 (un (relBox r s))) ∧ w = w' := by
  have hl := hr.len
  by_cases h : relCheck r = 0
  · have hn : relBox r s = boxTo r s r.length := if_pos h
    have HN := Lib.hid hn
    have H1 := Lib.hid h
    have h64 : r.length ≤ 64 := by
      unfold relCheck at h
      by_cases h2 : 64 < r.length
      · rw [if_pos h2] at h; omega
      · omega
    clear hn h
    go_enter Tryz.func174, Tryz.ntmps174
    go_wp2_with (go_at_call 140; refine (relCheck_any _ _ _ _ hr).mono ?_; rintro e w1 ⟨rfl, rfl⟩; rw [H1.out])
    go_loop [5, 14] (fun o i => ∃ k : Nat, k ≤ r.length ∧ i = .int .i64 k ∧ o = .int .u64 (un (boxTo r s k))) (fun _ i => r.length - (intOf i).toNat)
    case atStart => exact ⟨0, Nat.zero_le _, rfl, rfl⟩
    case round =>
      obtain ⟨k, hk, rfl, rfl⟩ := hrel
      by_cases hlt : k < r.length
      · obtain ⟨b, off, rfl, hb, hc⟩ := hr.get hlt
        by_cases hq : (nth r k &&& ~~~ s) = 0#64
        · have hs : boxTo r s (k + 1) = boxTo r s k ||| 1#64 <<< k := if_pos hq
          have HS := Lib.hid hs
          have hq2 : ((nth r k &&& ~~~ s) == 0#64) = true := by simp [hq]
          clear hq hs
          go_wp2
          go_round
          case rel => exact ⟨k + 1, hlt, by go_num, by rw [HS.out]⟩
          case measure => simp [intOf]; omega
        · have hs : boxTo r s (k + 1) = boxTo r s k := if_neg hq
          have HS := Lib.hid hs
          have hq2 : ((nth r k &&& ~~~ s) == 0#64) = false := by simp [hq]
          clear hq hs
          go_wp2
          go_round
          case rel => exact ⟨k + 1, hlt, by go_num, by rw [HS.out]⟩
          case measure => simp [intOf]; omega
      · obtain rfl : k = r.length := by omega
        go_wp2
        go_ret
        exact ⟨by rw [HN.out]; rfl, rfl⟩
  · have hn : relBox r s = 0#64 := if_neg h
    have HN := Lib.hid hn
    have hq2 : (relCheck r != 0) = true := by simp [h]
    clear hn h
    go_enter Tryz.func174, Tryz.ntmps174
    go_wp2_with (go_at_call 140; refine (relCheck_any _ _ _ _ hr).mono ?_; rintro e w1 ⟨rfl, rfl⟩)
    go_ret
    exact ⟨by rw [HN.out]; rfl, rfl⟩
set_option maxHeartbeats 1000000 in
theorem relDia_any (a : Option Addr) (r : List (BitVec 64)) (c : Nat) (s : BitVec 64) (w : World) (hr : RU w a r) :
    Calls Tryz.prog 175 #[.slice a r.length c, .int .u64 (un s)] w fun e w' => e = .returned (.int .u64 (un (relDia r s))) ∧ w = w' := by
  have hl := hr.len
  by_cases h : relCheck r = 0
  · have hn : relDia r s = allW r.length &&& ~~~ relBox r (~~~ s) := by unfold relDia relBox; rw [if_pos h, if_pos h]
    have HN := Lib.hid hn
    have H1 := Lib.hid h
    clear hn h
    go_enter Tryz.func175, Tryz.ntmps175
    go_wp2_with (first | (go_at_call 140; refine (relCheck_any _ _ _ _ hr).mono ?_; rintro e w1 ⟨rfl, rfl⟩; rw [H1.out]) | (go_at_call 168; refine (relAll_any _ _).mono ?_; rintro e w1 ⟨rfl, rfl⟩) | (go_at_call 174; refine (relBox_any _ _ _ (~~~ s) _ hr).mono ?_; rintro e w1 ⟨rfl, rfl⟩))
    go_ret
    exact ⟨by rw [HN.out]; rfl, rfl⟩
  · have hn : relDia r s = 0#64 := if_neg h
    have HN := Lib.hid hn
    have hq2 : (relCheck r != 0) = true := by simp [h]
    clear hn h
    go_enter Tryz.func175, Tryz.ntmps175
    go_wp2_with (go_at_call 140; refine (relCheck_any _ _ _ _ hr).mono ?_; rintro e w1 ⟨rfl, rfl⟩)
    go_ret
    exact ⟨by rw [HN.out]; rfl, rfl⟩
end Wt
