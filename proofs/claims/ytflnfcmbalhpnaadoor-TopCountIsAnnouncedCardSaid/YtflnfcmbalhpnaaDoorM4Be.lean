/- Plain laws of announcements: two in a row are one restriction; what repetition leaves; whether and then restriction. -/
import Derived.Test.YtflnfcmbalhpnaaDoorM4Ao
import Derived.Test.YtflnfcmbalhpnaaDoorM4Bd
import Derived.Test.YtflnfcmbalhpnaaDoorM4Am
import Derived.Test.YtflnfcmbalhpnaaDoorM4Bc
namespace Wt
open Go Go.RowKit Go.Proofs Fm

/-! Two announcements. -/
theorem seq_two {M : Mo} {f g : List Nd} (hM : moCheck M = 0) (hu : upErr M f = 0) : seqOf M [f, g] = if upErr (upM M f) g ≠ 0 then (⟨0, [], []⟩, [], 1, upErr (upM M f) g) else (upM (upM M f) g, thr (upL M f) (upL (upM M f) g), 2, 0) := by
  obtain ⟨N, ok, -, -, -, hlt, -, -⟩ := up_ok hu
  unfold seqOf
  rw [if_neg (by simp [hM]), show M.worlds.toNat = N by rw [ok.worlds]; exact Int.toNat_natCast N, seqR_ok hu, thr_range hlt]
  rfl
/-- The worlds of the first model that the worlds of a set of the second were, as the law gathers them. -/
def gatS (s : BitVec 64) (l : List Nat) : Nat → BitVec 64
  | 0 => 0#64
  | k + 1 => gatS s l k ||| ((s >>> k &&& 1#64) <<< nth l k)
theorem bt_gatS (s : BitVec 64) (l : List Nat) (hl : ∀ i, i < l.length → nth l i < 64) : ∀ k, k ≤ l.length → ∀ i, bt (gatS s l k) i = true ↔ ∃ j, j < k ∧ bt s j = true ∧ nth l j = i
  | 0, _, i => by simp [gatS, bt_zero]
  | k + 1, hk, i => by
    have ih := bt_gatS s l hl k (by omega) i
    have hlk := hl k (by omega)
    have e : bt ((s >>> k &&& 1#64) <<< nth l k) i = (decide (i = nth l k) && bt s k) := by
      simp only [bt, BitVec.getLsbD_shiftLeft, BitVec.getLsbD_and, BitVec.getLsbD_ushiftRight, BitVec.getLsbD_one]
      by_cases h : i = nth l k
      · subst h; simp [hlk]
      · by_cases h2 : i < nth l k
        · simp [h, h2]
        · have : ¬ (i - nth l k = 0) := by omega
          simp [h, this]
    unfold gatS
    rw [bt_or, e, Bool.or_eq_true, ih]
    constructor
    · rintro (⟨j, h1, h2, h3⟩ | h)
      · exact ⟨j, by omega, h2, h3⟩
      · simp only [Bool.and_eq_true, decide_eq_true_eq] at h
        exact ⟨k, by omega, h.2, h.1.symm⟩
    · rintro ⟨j, h1, h2, h3⟩
      by_cases hj : j = k
      · subst hj; right; simp [h2, h3]
      · exact .inl ⟨j, by omega, h2, h3⟩
/-- Two announcements restrict the model to the gathered worlds. -/
theorem merge_law {M : Mo} {f g : List Nd} (hu : upErr M f = 0) (hg : reqErr (upM M f) g = 0) :
    let S := gatS (holdsOf (upM M f) g) (upL M f) (upL M f).length
    (S = 0#64 → upErr (upM M f) g = 11) ∧ (S ≠ 0#64 → upErr (upM M f) g = 0 ∧ resErr M S = 0 ∧ resM M S = upM (upM M f) g ∧ resL M S = natI (thr (upL M f) (upL (upM M f) g))) := by
  intro S
  obtain ⟨N, ok, ok2, e1, e2, hlt, hle, hrq⟩ := up_ok hu
  have h64 := ok.most
  have hl64 : ∀ i, i < (upL M f).length → nth (upL M f) i < 64 := fun i hi => by have := hlt i hi; omega
  have hS : ∀ i, bt S i = true ↔ ∃ j, j < (upL M f).length ∧ bt (holdsOf (upM M f) g) j = true ∧ nth (upL M f) j = i := bt_gatS _ _ hl64 _ (Nat.le_refl _)
  have hin := holds_in ok2 g
  refine ⟨fun h0 => ?_, fun h0 => ?_⟩
  · have hz : holdsOf (upM M f) g = 0#64 := bt_ext fun k hk => by
      rw [bt_zero]
      cases hb : bt (holdsOf (upM M f) g) k
      · rfl
      · have h2 := hin k hk hb
        rw [bt_allW] at h2; simp at h2
        have h3 := (hS (nth (upL M f) k)).2 ⟨k, h2.2, hb, rfl⟩
        rw [h0, bt_zero] at h3; cases h3
    unfold upErr; rw [if_neg (by simp [hg]), if_pos hz]
  · have hnz : holdsOf (upM M f) g ≠ 0#64 := fun e => h0 (bt_ext fun k hk => by
      rw [bt_zero]
      cases hb : bt S k
      · rfl
      · obtain ⟨j, _, hj, _⟩ := (hS k).1 hb
        rw [e, bt_zero] at hj; cases hj)
    have hu2 := upErr_mk hg hnz
    have hSN : Sub S (allW N) := fun k hk hb => by
      obtain ⟨j, hj, _, rfl⟩ := (hS k).1 hb
      have := hlt j hj
      rw [bt_allW]; simp [hk, this]
    obtain ⟨r1, r2, r3⟩ := res_ok ok hSN h0
    have hm : memL S = thr (upL M f) (upL (upM M f) g) := by
      have e4 : upL (upM M f) g = memL (holdsOf (upM M f) g) := if_pos hu2
      rw [e4, e2]
      refine memL_thr (by rw [← e2]; exact hin) fun i => ?_
      rw [hS i, e2]
    have e4 : upL (upM M f) g = memL (holdsOf (upM M f) g) := if_pos hu2
    have e5 : upM (upM M f) g = arrM (upM M f) (upL (upM M f) g) := by rw [e4]; exact if_pos hu2
    refine ⟨hu2, r1, ?_, ?_⟩
    · have key := arr_arr (M := M) (ws := upL M f) (vs := upL (upM M f) g) (Nat.le_trans hle h64) (by rw [e4]; exact memL_len _) (fun i hi => by
        rw [e4] at hi ⊢
        exact memL_lt hin hi)
      rw [r2, hm, e5, ← key, ← e1]
    · rw [r3, hm]
/-! Repetition. -/
theorem rep_law {f : List Nd} : ∀ (k n : Nat) (A : Mo) (ws : List Nat), MoOk A ws.length → reqErr A f = 0 → ws.length ≤ k →
    ∃ A' ws' n', repR f k A ws n = (A', ws', n + n') ∧ MoOk A' ws'.length ∧ reqErr A' f = 0 ∧ (holdsOf A' f = 0#64 ∨ holdsOf A' f = allW ws'.length) ∧ n' + ws'.length ≤ ws.length ∧ ∀ i, seqR A ws (List.replicate n' f) i = (A', ws', i + n', 0)
  | 0, n, A, ws, ok, _, hk => by have := ok.one; omega
  | k + 1, n, A, ws, ok, hq, hk => by
    by_cases h : holdsOf A f = 0#64 ∨ holdsOf A f = allW ws.length
    · exact ⟨A, ws, 0, repR_stop ok hk h, ok, hq, h, by omega, fun i => rfl⟩
    · have h1 : holdsOf A f ≠ 0#64 := fun e => h (.inl e)
      have h2 : holdsOf A f ≠ allW ws.length := fun e => h (.inr e)
      obtain ⟨j, hj, hgo⟩ := repR_go ok hk h1 h2 (n := n) (ws := ws)
      obtain rfl : k = j := by omega
      have hu := upErr_mk hq h1
      obtain ⟨N, ok0, ok2, -, -, -, hle, hrq⟩ := up_ok hu
      have hN : N = ws.length := by
        have e1 := ok0.worlds
        have e2 := ok.worlds
        omega
      have hne : (upL A f).length ≠ ws.length := fun e => h2 ((up_all ok hu).1 e)
      obtain ⟨A', ws', n', g1, g2, g3, g4, g5, g6⟩ := rep_law k (n + 1) (upM A f) (thr ws (upL A f)) (by rw [thr_len]; exact ok2) ((hrq f).trans hq) (by rw [thr_len]; omega)
      rw [thr_len] at g5
      refine ⟨A', ws', n' + 1, by rw [hgo, g1]; simp; omega, g2, g3, g4, by omega, fun i => ?_⟩
      rw [List.replicate_succ, seqR_ok hu, g6]
      simp; omega
/-! Whether. -/
theorem wh_law {M : Mo} {N : Nat} (ok : MoOk M N) {f : List Nd} (h : reqErr M f = 0) : arrM (whM M f) (memL (holdsOf M f)) = arrM M (memL (holdsOf M f)) := by
  have e : whM M f = ⟨M.worlds, M.val, M.rel.map (whRow (holdsOf M f))⟩ := if_neg (by simp [h])
  rw [e]
  unfold arrM
  simp only [List.map_map, Mo.mk.injEq, true_and]
  refine List.map_congr_left fun r hr => ?_
  simp only [Function.comp]
  refine nth_ext (by simp) fun k hk => ?_
  have hk : k < (memL (holdsOf M f)).length := by simpa using hk
  rw [nth_mapN _ _ hk, nth_mapN _ _ hk]
  have hlt := memL_lt (holds_in ok f) hk
  have hb := (mem_memL.1 (nth_mem hk)).2
  have hrl := ok.row r hr
  have hrow : nth (whRow (holdsOf M f) r) (nth (memL (holdsOf M f)) k) = nth r (nth (memL (holdsOf M f)) k) &&& holdsOf M f := by
    unfold whRow
    rw [nth_mapN _ _ (by simp; omega), nth_range (by omega), if_pos hb]
  rw [hrow]
  refine bt_ext fun i hi => ?_
  rw [bt_pullL _ _ (memL_len _), bt_pullL _ _ (memL_len _), bt_and]
  by_cases hil : i < (memL (holdsOf M f)).length
  · rw [(mem_memL.1 (nth_mem hil)).2]; simp
  · simp [hil]
end Wt

/- Plain laws of observations: what Build, Pool, Reveal, Informed and Product compute. -/
namespace Wt
open Go Go.RowKit Go.Proofs Fm

/-- Are the tables alike at two valuations? -/
def alikeT (ts : List (BitVec 64)) (v w : Nat) : Bool := ts.all fun t => bt t v == bt t w
/-- The values of the first n tables at a valuation, as a number. -/
def keyT (ts : List (BitVec 64)) (v : Nat) : Nat → Nat
  | 0 => 0
  | i + 1 => keyT ts v i ||| (if bt (nth ts i) v then 2 ^ i else 0)
theorem keyT_lt (ts : List (BitVec 64)) (v : Nat) : ∀ n, keyT ts v n < 2 ^ n
  | 0 => by simp [keyT]
  | n + 1 => by
    have ih := keyT_lt ts v n
    have h2 : 2 ^ (n + 1) = 2 ^ n + 2 ^ n := by rw [Nat.pow_succ]; omega
    have h3 : 0 < 2 ^ n := Nat.pow_pos (by decide)
    unfold keyT
    refine Nat.or_lt_two_pow (by omega) ?_
    split <;> omega
theorem keyT_bit (ts : List (BitVec 64)) (v : Nat) {j : Nat} : ∀ n, (keyT ts v n).testBit j = (decide (j < n) && bt (nth ts j) v)
  | 0 => by simp [keyT]
  | n + 1 => by
    unfold keyT
    rw [Nat.testBit_or, keyT_bit ts v n]
    by_cases hj : j = n
    · subst hj
      have e : decide (j < j) = false := by simp
      rw [e, Bool.false_and, Bool.false_or]
      split
      · next h => rw [Nat.testBit_two_pow_self, h]; simp
      · next h => simp [h]
    · have e : decide (j < n + 1) = decide (j < n) := by congr 1; exact propext ⟨fun _ => by omega, fun _ => by omega⟩
      rw [e]
      split
      · rw [Nat.testBit_two_pow_of_ne (by omega)]; simp
      · simp
theorem keyT_alike (ts : List (BitVec 64)) (v w : Nat) : keyT ts v ts.length = keyT ts w ts.length ↔ alikeT ts v w = true := by
  constructor
  · intro h
    unfold alikeT
    rw [List.all_eq_true]
    intro t ht
    obtain ⟨k, hk, rfl⟩ := mem_nth ht
    have h1 := keyT_bit ts v (j := k) ts.length
    rw [h, keyT_bit ts w ts.length] at h1
    simp [hk] at h1
    simp [h1]
  · intro h
    refine Nat.eq_of_testBit_eq fun j => ?_
    rw [keyT_bit, keyT_bit]
    by_cases hj : j < ts.length
    · have := List.all_eq_true.1 h _ (nth_mem hj)
      have := eq_of_beq this
      rw [this]
    · simp [hj]
/-- The relation of who observes the formulas with these tables. -/
def cellR (states : List Nat) (ts : List (BitVec 64)) : List (BitVec 64) := states.map fun v => setTo (fun w => alikeT ts v (nth states w)) states.length
/-- The facts of the states. -/
def valR (n : Nat) (states : List Nat) : List (BitVec 64) := (List.range n).map fun i => setTo (fun w => (nth states w).testBit i) states.length
/-- The first error of a list of tables. -/
def tabsErr (n : Int) : List (List Nd) → Int
  | [] => 0
  | f :: r => if tabErr f n ≠ 0 then tabErr f n else tabsErr n r
def seenErr (n : Int) : List (List (List Nd)) → Int
  | [] => 0
  | l :: r => if tabsErr n l ≠ 0 then tabsErr n l else seenErr n r
/-- What is wrong with a law and observations. -/
def obErr (n : Int) (law : List Nd) (seen : List (List (List Nd))) : Int :=
  if 4 < seen.length ∨ ∃ l ∈ seen, 16 < l.length then 8
  else if tabErr law n ≠ 0 then tabErr law n
  else if seenErr n seen ≠ 0 then seenErr n seen
  else if tabOf law n = 0#64 then 11 else 0
def obS (n : Int) (law : List Nd) (seen : List (List (List Nd))) : List Nat := if obErr n law seen = 0 then memL (tabOf law n) else []
def obM (n : Int) (law : List Nd) (seen : List (List (List Nd))) : Mo :=
  if obErr n law seen = 0 then ⟨(memL (tabOf law n)).length, valR n.toNat (memL (tabOf law n)), seen.map fun l => cellR (memL (tabOf law n)) (l.map fun f => tabOf f n)⟩ else ⟨0, [], []⟩
/-- What a group pools. -/
def poolErr (seen : List (List (List Nd))) (g : Int) : Int := if 4 < seen.length ∨ g < 1 ∨ p2 seen.length ≤ g then 2 else 0
def poolTo (seen : List (List (List Nd))) (g : Nat) : Nat → List (List Nd)
  | 0 => []
  | k + 1 => poolTo seen g k ++ if g.testBit k then nth seen k else []
def poolOf (seen : List (List (List Nd))) (g : Int) : List (List Nd) := if poolErr seen g = 0 then poolTo seen g.toNat seen.length else []
/-- What a group learns. -/
def revErr (M : Mo) (g : Int) (f : List Nd) : Int := if reqErr M f ≠ 0 then reqErr M f else if g < 1 ∨ p2 M.rel.length ≤ g then 1 else 0
def revR (M : Mo) (g : Nat) (s : BitVec 64) (a : Nat) : List (BitVec 64) := if g.testBit a then whRow s (nth M.rel a) else nth M.rel a
def revM (M : Mo) (g : Int) (f : List Nd) : Mo := if revErr M g f = 0 then ⟨M.worlds, M.val, (List.range M.rel.length).map (revR M g.toNat (holdsOf M f))⟩ else ⟨0, [], []⟩
/-- Does an agent know what another one knows? -/
def infErr (M : Mo) (a b : Int) : Int := if moCheck M ≠ 0 then moCheck M else if a < 0 ∨ (M.rel.length : Int) ≤ a ∨ b < 0 ∨ (M.rel.length : Int) ≤ b then 1 else 0
def infTo (r q : List (BitVec 64)) : Nat → Bool
  | 0 => true
  | k + 1 => infTo r q k && (nth r k &&& ~~~ nth q k == 0#64)
def infOf (M : Mo) (a b : Int) : Bool := infErr M a b == 0 && infTo (nth M.rel a.toNat) (nth M.rel b.toNat) (nth M.rel a.toNat).length
/-- Two models side by side. -/
def pairL (n m : Nat) : List (Nat × Nat) := (List.range (n * m)).map fun i => (i / m, i % m)
def bothS (l : List (Nat × Nat)) (s t : BitVec 64) : BitVec 64 := setTo (fun i => bt s (nth l i).1 && bt t (nth l i).2) l.length
def prErr (A B : Mo) : Int :=
  if moCheck A ≠ 0 then moCheck A else if moCheck B ≠ 0 then moCheck B else if A.rel.length ≠ B.rel.length then 1
  else if 64 < A.worlds * B.worlds ∨ 8 < A.val.length + B.val.length then 8 else 0
def prL (A B : Mo) : List (Nat × Nat) := if prErr A B = 0 then pairL A.worlds.toNat B.worlds.toNat else []
def prR (l : List (Nat × Nat)) (r q : List (BitVec 64)) : List (BitVec 64) := l.map fun p => bothS l (nth r p.1) (nth q p.2)
def prM (A B : Mo) : Mo :=
  if prErr A B = 0 then
    ⟨((prL A B).length : Int), A.val.map (fun s => bothS (prL A B) s (allW B.worlds.toNat)) ++ B.val.map (fun t => bothS (prL A B) (allW A.worlds.toNat) t),
      (List.range A.rel.length).map fun i => prR (prL A B) (nth A.rel i) (nth B.rel i)⟩
  else ⟨0, [], []⟩
end Wt

/- Plain laws: distribution, truth and both introspections, as trees and as sets. -/
namespace Wt
open Go Go.RowKit Go.Proofs Fm

theorem ru_cell {w : World} {b off : Nat} {l : List (BitVec 64)} (h : RU w (some ⟨b, off, none⟩) l) {k : Nat} (hk : k < l.length) : w.cell? ⟨b, off + k, none⟩ = some (.int .u64 (un (nth l k))) := by
  obtain ⟨b', off', e, _, hc⟩ := h.get hk
  simp only [Option.some.injEq, Addr.mk.injEq] at e
  obtain ⟨rfl, rfl, -⟩ := e
  exact hc
theorem imp_all {N : Nat} {a b : BitVec 64} (hb : Sub b (allW N)) (h : ∀ k, k < 64 → k < N → bt a k = true → bt b k = true) : (allW N &&& ~~~ a) ||| b = allW N := bt_ext fun k hk => by
  rw [bt_or, bt_and, bt_not, bt_allW]
  by_cases hn : k < N
  · cases ha : bt a k
    · simp [hk, hn]
    · rw [h k hk hn ha]; simp [hk, hn]
  · have : bt b k = false := by
      cases hc : bt b k
      · rfl
      · have := hb k hk hc
        rw [bt_allW] at this; simp [hn] at this
    simp [hn, this]
section
variable {M : Mo} {N : Nat} (ok : MoOk M N) {q : Nat} (hq : q < M.rel.length)
include ok hq
theorem box_sub {Z : BitVec 64} {k : Nat} (hk : k < 64) (hn : k < N) : bt (relBox (nth M.rel q) Z) k = true ↔ Sub (nth (nth M.rel q) k) Z := by
  rw [bt_agent ok hq Z hk, Bool.and_eq_true, sub_bool]
  simp [hn]
theorem agent_in (Z : BitVec 64) : Sub (relBox (nth M.rel q) Z) (allW N) := box_in (by rw [(row_in ok hq).1]; exact Nat.le_refl _)
theorem lawK (x y : BitVec 64) (_hy : Sub y (allW N)) : (allW N &&& ~~~ relBox (nth M.rel q) ((allW N &&& ~~~ x) ||| y)) ||| ((allW N &&& ~~~ relBox (nth M.rel q) x) ||| relBox (nth M.rel q) y) = allW N := by
  refine imp_all (Sub.and1 (Sub.refl _) |>.or (agent_in ok hq y)) fun k hk hn h1 => ?_
  rw [box_sub ok hq hk hn] at h1
  rw [bt_or, bt_and, bt_not, bt_allW]
  cases h2 : bt (relBox (nth M.rel q) x) k
  · simp [hk, hn]
  · rw [box_sub ok hq hk hn] at h2
    have : bt (relBox (nth M.rel q) y) k = true := (box_sub ok hq hk hn).2 fun u hu hb => by
      have h3 := h1 u hu hb
      rw [bt_or, bt_and, bt_not, h2 u hu hb] at h3
      simpa using h3
    rw [this]; simp
/-- What the law asks of an equivalence. -/
def eqI (r : List (BitVec 64)) (w : Nat) : Nat → Bool := allQ fun x => !bt (nth r w) x || (nth r w == nth r x)
def eqO (r : List (BitVec 64)) (N : Nat) : Nat → Bool := allQ fun w => bt (nth r w) w && eqI r w N
omit ok hq in
theorem eqO_iff {r : List (BitVec 64)} (h : eqO r N N = true) : (∀ w, w < N → bt (nth r w) w = true) ∧ ∀ w x, w < N → x < N → bt (nth r w) x = true → nth r w = nth r x := by
  unfold eqO at h
  rw [allQ_iff] at h
  refine ⟨fun w hw => (Bool.and_eq_true _ _ ▸ h w hw).1, fun w x hw hx hb => ?_⟩
  have h2 := (Bool.and_eq_true _ _ ▸ h w hw).2
  unfold eqI at h2
  rw [allQ_iff] at h2
  have := h2 x hx
  rw [hb] at this
  simpa using this
variable (he : eqO (nth M.rel q) N N = true)
include he
theorem lawT (x : BitVec 64) (hx : Sub x (allW N)) : (allW N &&& ~~~ relBox (nth M.rel q) x) ||| x = allW N := by
  obtain ⟨h1, _⟩ := eqO_iff he
  exact imp_all hx fun k hk hn h => (box_sub ok hq hk hn).1 h k hk (h1 k hn)
theorem law4 (x : BitVec 64) : (allW N &&& ~~~ relBox (nth M.rel q) x) ||| relBox (nth M.rel q) (relBox (nth M.rel q) x) = allW N := by
  obtain ⟨_, h2⟩ := eqO_iff he
  refine imp_all (agent_in ok hq _) fun k hk hn h => (box_sub ok hq hk hn).2 fun u hu hb => ?_
  have hun : u < N := by
    have := (row_in ok hq).2 k hn u hu hb
    rw [bt_allW] at this; simp at this; exact this.2
  rw [box_sub ok hq hu hun, ← h2 k u hn hun hb]
  exact (box_sub ok hq hk hn).1 h
theorem law5 (x : BitVec 64) : (allW N &&& ~~~ (allW N &&& ~~~ relBox (nth M.rel q) x)) ||| relBox (nth M.rel q) (allW N &&& ~~~ relBox (nth M.rel q) x) = allW N := by
  obtain ⟨_, h2⟩ := eqO_iff he
  refine imp_all (agent_in ok hq _) fun k hk hn h => (box_sub ok hq hk hn).2 fun u hu hb => ?_
  have hun : u < N := by
    have := (row_in ok hq).2 k hn u hu hb
    rw [bt_allW] at this; simp at this; exact this.2
  rw [bt_and, bt_not, bt_allW] at h ⊢
  have hneg : bt (relBox (nth M.rel q) x) u = false := by
    cases hc : bt (relBox (nth M.rel q) x) u
    · rfl
    · rw [box_sub ok hq hu hun, ← h2 k u hn hun hb] at hc
      have := (box_sub ok hq hk hn).2 hc
      rw [this] at h; simp at h
  rw [hneg]; simp [hu, hun]
end
/-- The formulas of one agent's axioms, and their sets. -/
structure AxF (M : Mo) (N a : Nat) (f h : List Nd) : Prop where
  iK : Hid (IsF (fB ⟨7, 0, 0, 0, 0, 0⟩ [fB ⟨9, (a : Int), 0, 0, 0, 0⟩ [fB ⟨7, 0, 0, 0, 0, 0⟩ [f, h]], fB ⟨7, 0, 0, 0, 0, 0⟩ [fB ⟨9, (a : Int), 0, 0, 0, 0⟩ [f], fB ⟨9, (a : Int), 0, 0, 0, 0⟩ [h]]]) (.bin 7 0 0 0 (.un 9 a 0 0 (.bin 7 0 0 0 (rt f) (rt h))) (.bin 7 0 0 0 (.un 9 a 0 0 (rt f)) (.un 9 a 0 0 (rt h)))))
  sK : Hid (semT M (.bin 7 0 0 0 (.un 9 a 0 0 (.bin 7 0 0 0 (rt f) (rt h))) (.bin 7 0 0 0 (.un 9 a 0 0 (rt f)) (.un 9 a 0 0 (rt h)))) = (allW N, true))
  iT : Hid (IsF (fB ⟨7, 0, 0, 0, 0, 0⟩ [fB ⟨9, (a : Int), 0, 0, 0, 0⟩ [f], f]) (.bin 7 0 0 0 (.un 9 a 0 0 (rt f)) (rt f)))
  i4 : Hid (IsF (fB ⟨7, 0, 0, 0, 0, 0⟩ [fB ⟨9, (a : Int), 0, 0, 0, 0⟩ [f], fB ⟨9, (a : Int), 0, 0, 0, 0⟩ [fB ⟨9, (a : Int), 0, 0, 0, 0⟩ [f]]]) (.bin 7 0 0 0 (.un 9 a 0 0 (rt f)) (.un 9 a 0 0 (.un 9 a 0 0 (rt f)))))
  i5 : Hid (IsF (fB ⟨7, 0, 0, 0, 0, 0⟩ [fB ⟨4, 0, 0, 0, 0, 0⟩ [fB ⟨9, (a : Int), 0, 0, 0, 0⟩ [f]], fB ⟨9, (a : Int), 0, 0, 0, 0⟩ [fB ⟨4, 0, 0, 0, 0, 0⟩ [fB ⟨9, (a : Int), 0, 0, 0, 0⟩ [f]]]]) (.bin 7 0 0 0 (.un 4 0 0 0 (.un 9 a 0 0 (rt f))) (.un 9 a 0 0 (.un 4 0 0 0 (.un 9 a 0 0 (rt f))))))
  sE : Hid (eqO (nth M.rel a) N N = true → semT M (.bin 7 0 0 0 (.un 9 a 0 0 (rt f)) (rt f)) = (allW N, true) ∧ semT M (.bin 7 0 0 0 (.un 9 a 0 0 (rt f)) (.un 9 a 0 0 (.un 9 a 0 0 (rt f)))) = (allW N, true) ∧ semT M (.bin 7 0 0 0 (.un 4 0 0 0 (.un 9 a 0 0 (rt f))) (.un 9 a 0 0 (.un 4 0 0 0 (.un 9 a 0 0 (rt f))))) = (allW N, true))
/-- A tree has at most as many different trees below it as a list that holds them. -/
theorem fsize_axK {a b : Fm} (q : Int) (ha : fsize a ≤ 60) (hb : fsize b ≤ 60) : fsize (.bin 7 0 0 0 (.un 9 q 0 0 (.bin 7 0 0 0 a b)) (.bin 7 0 0 0 (.un 9 q 0 0 a) (.un 9 q 0 0 b))) ≤ 200 := by
  have := fsize_sub (t := .bin 7 0 0 0 (.un 9 q 0 0 (.bin 7 0 0 0 a b)) (.bin 7 0 0 0 (.un 9 q 0 0 a) (.un 9 q 0 0 b)))
    (L := addT a [] ++ (addT b [] ++ [.bin 7 0 0 0 (.un 9 q 0 0 (.bin 7 0 0 0 a b)) (.bin 7 0 0 0 (.un 9 q 0 0 a) (.un 9 q 0 0 b)), .un 9 q 0 0 (.bin 7 0 0 0 a b), .bin 7 0 0 0 a b, .bin 7 0 0 0 (.un 9 q 0 0 a) (.un 9 q 0 0 b), .un 9 q 0 0 a, .un 9 q 0 0 b])) (fun s hs => by
      simp only [sbt] at hs
      simp only [List.mem_append, List.mem_cons, List.not_mem_nil, or_false]
      rcases hs with h | (h | h | h | h) | h | (h | h) | h | h
      all_goals first
        | exact .inl (sbt_mem h)
        | exact .inr (.inl (sbt_mem h))
        | (right; right; simp [h]))
  simp only [List.length_append, List.length_cons, List.length_nil] at this
  simp only [fsize] at *
  omega
section
variable {M : Mo} {N : Nat} (ok : MoOk M N) {a : Nat} (ha : a < M.rel.length)
include ok ha
omit ok in
theorem sem_know {t : Fm} {s : BitVec 64} (h : semT M t = (s, true)) : semT M (.un 9 (a : Int) 0 0 t) = (relBox (nth M.rel a) s, true) := by
  rw [semT_un _ _ _ _ (by rw [h]), h]
  have hng : ¬ ((M.rel.length : Int) ≤ (a : Int)) := by omega
  simp [valN, hng]
omit ha in
theorem sem_imp {t u : Fm} {s r : BitVec 64} (h : semT M t = (s, true)) (h2 : semT M u = (r, true)) : semT M (.bin 7 0 0 0 t u) = ((allW N &&& ~~~ s) ||| r, true) := by
  have hNt : M.worlds.toNat = N := by rw [ok.worlds]; exact Int.toNat_natCast N
  rw [semT_bin _ _ _ _ (by rw [h]) (by rw [h2]), h, h2]
  simp [valN, hNt]
omit ha in
theorem sem_not {t : Fm} {s : BitVec 64} (h : semT M t = (s, true)) : semT M (.un 4 0 0 0 t) = (allW N &&& ~~~ s, true) := by
  have hNt : M.worlds.toNat = N := by rw [ok.worlds]; exact Int.toNat_natCast N
  rw [semT_un _ _ _ _ (by rw [h]), h]
  simp [valN, hNt]
theorem axF {f h : List Nd} (If : IsF f (rt f)) (Ih : IsF h (rt h)) (Sf : semT M (rt f) = (holdsOf M f, true)) (Sh : semT M (rt h) = (holdsOf M h, true)) (hlf : f.length ≤ 60) (hlh : h.length ≤ 60) : AxF M N a f h := by
  have hR4 := ok.rel
  have zf : fsize (rt f) ≤ 60 := Nat.le_trans If.sz hlf
  have zh : fsize (rt h) ≤ 60 := Nat.le_trans Ih.sz hlh
  have inf : Sub (holdsOf M f) (allW N) := by have := semT_in ok (rt f); rw [Sf] at this; exact this
  have inh : Sub (holdsOf M h) (allW N) := by have := semT_in ok (rt h); rw [Sh] at this; exact this
  have un9 : ∀ t, fsize (.un 9 (a : Int) 0 0 t) ≤ fsize t + 1 := fun t => fsize_un 9 (a : Int) 0 0
  have un4 : ∀ t, fsize (.un 4 0 0 0 t) ≤ fsize t + 1 := fun t => fsize_un 4 0 0 0
  have b7 : ∀ t u, fsize (.bin 7 0 0 0 t u) ≤ fsize t + fsize u + 1 := fun t u => fsize_bin 7 0 0 0
  have kk : ∀ {l t}, IsF l t → fsize t ≤ 190 → IsF (fB ⟨9, (a : Int), 0, 0, 0, 0⟩ [l]) (.un 9 (a : Int) 0 0 t) := fun h1 h2 => isF_un h1 (fok_know a (by omega) h1.fk) (Nat.le_trans (un9 _) (by omega))
  have nn : ∀ {l t}, IsF l t → fsize t ≤ 190 → IsF (fB ⟨4, 0, 0, 0, 0, 0⟩ [l]) (.un 4 0 0 0 t) := fun h1 h2 => isF_un h1 (fok_not h1.fk) (Nat.le_trans (un4 _) (by omega))
  have ii : ∀ {l t m u}, IsF l t → IsF m u → fsize (.bin 7 0 0 0 t u) ≤ 200 → IsF (fB ⟨7, 0, 0, 0, 0, 0⟩ [l, m]) (.bin 7 0 0 0 t u) := fun h1 h2 h3 => isF_bin h1 h2 (fok_imp h1.fk h2.fk) h3 rfl
  have q1 := un9 (rt f)
  have q2 := un9 (rt h)
  have q3 := un9 (.un 9 (a : Int) 0 0 (rt f))
  have q4 := un4 (.un 9 (a : Int) 0 0 (rt f))
  have q5 := un9 (.un 4 0 0 0 (.un 9 (a : Int) 0 0 (rt f)))
  have q6 := b7 (rt f) (rt h)
  have kf := kk If (by omega)
  have s1 := sem_know ha Sf
  have s2 := sem_know ha s1
  have s3 := sem_not ok s1
  refine ⟨Lib.hid (ii (kk (ii If Ih (by omega)) (by omega)) (ii kf (kk Ih (by omega)) (Nat.le_trans (b7 _ _) (by omega))) (fsize_axK _ zf zh)), Lib.hid ?_, Lib.hid (ii kf If (Nat.le_trans (b7 _ _) (by omega))), Lib.hid (ii kf (kk kf (by omega)) (Nat.le_trans (b7 _ _) (by omega))), Lib.hid (ii (nn kf (by omega)) (kk (nn kf (by omega)) (by omega)) (Nat.le_trans (b7 _ _) (by omega))), Lib.hid fun he => ⟨?_, ?_, ?_⟩⟩
  · rw [sem_imp ok (sem_know ha (sem_imp ok Sf Sh)) (sem_imp ok s1 (sem_know ha Sh)), lawK ok ha _ _ inh]
  · rw [sem_imp ok s1 Sf, lawT ok ha he _ inf]
  · rw [sem_imp ok s1 s2, law4 ok ha he]
  · rw [sem_imp ok s3 (sem_know ha s3), law5 ok ha he]
end
end Wt

/- Plain laws of observations: the model that is built is right; what its formulas say. -/
namespace Wt
open Go Go.RowKit Go.Proofs Fm

theorem tabsErr_all {n : Int} : ∀ {l : List (List Nd)}, tabsErr n l = 0 → ∀ f ∈ l, tabErr f n = 0
  | [], _, f, hf => absurd hf (by simp)
  | x :: l, h, f, hf => by
    unfold tabsErr at h
    by_cases hx : tabErr x n = 0
    · rw [if_neg (by simp [hx])] at h
      rcases List.mem_cons.1 hf with rfl | hf
      · exact hx
      · exact tabsErr_all h f hf
    · rw [if_pos hx] at h; exact absurd h hx
theorem seenErr_all {n : Int} : ∀ {L : List (List (List Nd))}, seenErr n L = 0 → ∀ l ∈ L, ∀ f ∈ l, tabErr f n = 0
  | [], _, l, hl => absurd hl (by simp)
  | x :: L, h, l, hl => by
    unfold seenErr at h
    by_cases hx : tabsErr n x = 0
    · rw [if_neg (by simp [hx])] at h
      rcases List.mem_cons.1 hl with rfl | hl
      · exact tabsErr_all hx
      · exact seenErr_all h l hl
    · rw [if_pos hx] at h; exact absurd h hx
structure ObOk (n : Int) (law : List Nd) (seen : List (List (List Nd))) : Prop where
  agents : seen.length ≤ 4
  few : ∀ l ∈ seen, l.length ≤ 16
  lw : tabErr law n = 0
  sn : ∀ l ∈ seen, ∀ f ∈ l, tabErr f n = 0
  some : tabOf law n ≠ 0#64
theorem obErr_ok {n : Int} {law : List Nd} {seen : List (List (List Nd))} (h : obErr n law seen = 0) : ObOk n law seen := by
  unfold obErr at h
  by_cases h1 : 4 < seen.length ∨ ∃ l ∈ seen, 16 < l.length
  · rw [if_pos h1] at h; omega
  rw [if_neg h1] at h
  by_cases h2 : tabErr law n = 0
  · rw [if_neg (by simp [h2])] at h
    by_cases h3 : seenErr n seen = 0
    · rw [if_neg (by simp [h3])] at h
      by_cases h4 : tabOf law n = 0#64
      · rw [if_pos h4] at h; omega
      · exact ⟨by omega, fun l hl => by
          by_cases h5 : 16 < l.length
          · exact absurd (.inr ⟨l, hl, h5⟩) h1
          · omega, h2, seenErr_all h3, h4⟩
    · rw [if_pos h3] at h; exact absurd h h3
  · rw [if_pos h2] at h; exact absurd h h2
theorem bt_tab {f : List Nd} {n : Int} (h : tabErr f n = 0) {v : Nat} (hv : v < 64) : bt (tabOf f n) v = (decide (v < 2 ^ n.toNat) && pv v.testBit (rt f)) := by
  rw [tab_eq h, bt_setTo _ hv]
theorem cellR_len (st : List Nat) (ts : List (BitVec 64)) : (cellR st ts).length = st.length := by simp [cellR]
theorem cellR_nth {st : List Nat} (ts : List (BitVec 64)) {x : Nat} (hx : x < st.length) : nth (cellR st ts) x = setTo (fun w => alikeT ts (nth st x) (nth st w)) st.length := nth_mapN _ _ hx
theorem bt_cell {st : List Nat} (ts : List (BitVec 64)) (h64 : st.length ≤ 64) {x y : Nat} (hx : x < st.length) (hy : y < st.length) : bt (nth (cellR st ts) x) y = alikeT ts (nth st x) (nth st y) := by
  rw [cellR_nth ts hx, bt_setTo _ (by omega)]; simp [hy]
theorem setTo_in (p : Nat → Bool) (n : Nat) : Sub (setTo p n) (allW n) := fun k hk h => by
  rw [bt_setTo p hk] at h
  rw [bt_allW]; simp [hk]; simp at h; exact h.1
theorem valR_len (n : Nat) (st : List Nat) : (valR n st).length = n := by simp [valR]
section
variable {n : Int} {law : List Nd} {seen : List (List (List Nd))} (h : obErr n law seen = 0)
include h
theorem ob_len : (obS n law seen).length ≤ 64 ∧ 1 ≤ (obS n law seen).length := by
  have e : obS n law seen = memL (tabOf law n) := if_pos h
  rw [e]; exact ⟨memL_len _, memL_pos (obErr_ok h).some⟩
theorem ob_eq : obM n law seen = ⟨(obS n law seen).length, valR n.toNat (obS n law seen), seen.map fun l => cellR (obS n law seen) (l.map fun f => tabOf f n)⟩ := by
  have e : obS n law seen = memL (tabOf law n) := if_pos h
  rw [e]; exact if_pos h
theorem ob_lt {k : Nat} (hk : k < (obS n law seen).length) : nth (obS n law seen) k < 2 ^ n.toNat ∧ nth (obS n law seen) k < 64 ∧ bt (tabOf law n) (nth (obS n law seen) k) = true := by
  have e : obS n law seen = memL (tabOf law n) := if_pos h
  rw [e] at hk ⊢
  obtain ⟨h1, h2⟩ := mem_memL.1 (nth_mem hk)
  refine ⟨?_, h1, h2⟩
  rw [bt_tab (obErr_ok h).lw h1] at h2
  simp at h2; exact h2.1
theorem ob_ok : MoOk (obM n law seen) (obS n law seen).length := by
  have ok := obErr_ok h
  obtain ⟨_, _, h0, h6, _⟩ := tabErr_ok ok.lw
  obtain ⟨l1, l2⟩ := ob_len h
  rw [ob_eq h]
  refine ⟨rfl, l2, l1, by simpa using ok.agents, by show (valR _ _).length ≤ 8; rw [valR_len]; omega, ?_, ?_, ?_⟩
  · intro r hr
    obtain ⟨l, hl, rfl⟩ := List.mem_map.1 hr
    exact cellR_len _ _
  · intro s hs
    obtain ⟨i, hi, rfl⟩ := List.mem_map.1 hs
    exact andNot_zero.2 (setTo_in _ _)
  · intro r hr s hs
    obtain ⟨l, hl, rfl⟩ := List.mem_map.1 hr
    obtain ⟨v, hv, rfl⟩ := List.mem_map.1 hs
    exact andNot_zero.2 (setTo_in _ _)
theorem ob_val {k : Nat} (hk : k < (obS n law seen).length) (i : Nat) : bt (nth (obM n law seen).val i) k = (nth (obS n law seen) k).testBit i := by
  obtain ⟨l1, l2⟩ := ob_len h
  rw [ob_eq h]
  show bt (nth (valR _ _) i) k = _
  by_cases hi : i < n.toNat
  · have e : nth (valR n.toNat (obS n law seen)) i = setTo (fun w => (nth (obS n law seen) w).testBit i) (obS n law seen).length := by
      unfold valR; rw [nth_mapN _ _ (by simpa using hi), nth_range hi]
    rw [e, bt_setTo _ (by omega)]; simp [hk]
  · rw [nth_out (by rw [valR_len]; omega)]
    have h2 := (ob_lt h hk).1
    have h3 : 2 ^ n.toNat ≤ 2 ^ i := Nat.pow_le_pow_right (by decide) (by omega)
    rw [Nat.testBit_lt_two_pow (by omega)]
    exact bt_zero k
/-- A formula of the facts holds at the states of its table. -/
theorem ob_sem {f : List Nd} (hf : tabErr f n = 0) : reqErr (obM n law seen) f = 0 ∧ ∃ S, semT (obM n law seen) (rt f) = (S, true) ∧ ∀ k, k < (obS n law seen).length → bt S k = bt (tabOf f n) (nth (obS n law seen) k) := by
  have ok := ob_ok h
  obtain ⟨f1, f2, f3, f4, f5⟩ := tabErr_ok hf
  have hreq : reqErr (obM n law seen) f = 0 := by
    unfold reqErr
    rw [if_neg (by simp [ok.check]), if_neg (by simp [f1]), if_neg (by omega)]
    rw [fits_prop f1 f2 (by omega)] at f5
    have hv : (obM n law seen).val.length = n.toNat := by rw [ob_eq h]; exact valR_len _ _
    rw [hv]
    have e : fFits f (obM n law seen).rel.length n.toNat = true := by
      unfold fFits
      rw [f1, agents_none f2, below_zero]
      unfold below; rw [f5]; simp
    rw [e]; simp
  refine ⟨hreq, (semT (obM n law seen) (rt f)).1, ?_, fun k hk => ?_⟩
  · obtain ⟨s1, s2⟩ := set_sem ok.check (IsF.of f1)
    rw [hreq] at s1
    exact Prod.ext_iff.2 ⟨rfl, s1.symm⟩
  · obtain ⟨s1, s2⟩ := set_sem ok.check (IsF.of f1)
    rw [hreq] at s1
    rw [sem_pv ok _ (prop_frags f1 f2) s1.symm k hk]
    obtain ⟨e1, e2, _⟩ := ob_lt h hk
    rw [bt_tab hf e2]
    have : (fun i => bt (nth (obM n law seen).val i) k) = (nth (obS n law seen) k).testBit := funext fun i => ob_val h hk i
    rw [this]; simp [e1]
theorem ob_row {a : Nat} (ha : a < seen.length) : nth (obM n law seen).rel a = cellR (obS n law seen) ((nth seen a).map fun f => tabOf f n) := by
  rw [ob_eq h]; exact nth_mapN _ _ ha
theorem ob_rel : (obM n law seen).rel.length = seen.length := by rw [ob_eq h]; simp
end
theorem alikeT_refl (ts : List (BitVec 64)) (v : Nat) : alikeT ts v v = true := by simp [alikeT]
theorem alikeT_of {ts : List (BitVec 64)} {v w : Nat} : alikeT ts v w = true ↔ ∀ t ∈ ts, bt t v = bt t w := by
  unfold alikeT; rw [List.all_eq_true]
  exact ⟨fun h t ht => eq_of_beq (h t ht), fun h t ht => by rw [h t ht]; simp⟩
theorem alikeT_symm {ts : List (BitVec 64)} {v w : Nat} (h : alikeT ts v w = true) : alikeT ts w v = true := alikeT_of.2 fun t ht => (alikeT_of.1 h t ht).symm
theorem alikeT_trans {ts : List (BitVec 64)} {u v w : Nat} (h : alikeT ts u v = true) (h2 : alikeT ts v w = true) : alikeT ts u w = true := alikeT_of.2 fun t ht => (alikeT_of.1 h t ht).trans (alikeT_of.1 h2 t ht)
/-- A cell's rows are one. -/
theorem cell_same {st : List Nat} (ts : List (BitVec 64)) {x y : Nat} (hx : x < st.length) (hy : y < st.length) (h : alikeT ts (nth st x) (nth st y) = true) : nth (cellR st ts) x = nth (cellR st ts) y := by
  rw [cellR_nth ts hx, cellR_nth ts hy]
  refine setTo_congr fun k hk => ?_
  rw [Bool.eq_iff_iff]
  exact ⟨fun e => alikeT_trans (alikeT_symm h) e, fun e => alikeT_trans h e⟩
/-- An agent whose rows lie in a set or outside of it knows whether it is there. -/
theorem know_whether {M : Mo} {N : Nat} (ok : MoOk M N) {a : Nat} (ha : a < M.rel.length) {t : Fm} {S : BitVec 64} (hS : semT M t = (S, true)) (_hin : Sub S (allW N))
    (h : ∀ x, x < N → ∀ y, y < N → bt (nth (nth M.rel a) x) y = true → bt S y = bt S x) :
    semT M (.bin 6 0 0 0 (.un 9 (a : Int) 0 0 t) (.un 9 (a : Int) 0 0 (.un 4 0 0 0 t))) = (allW N, true) := by
  have k1 := sem_know ha hS
  have k2 := sem_know ha (sem_not ok hS)
  rw [semT_bin _ _ _ _ (by rw [k1]) (by rw [k2]), k1, k2]
  have e : relBox (nth M.rel a) S ||| relBox (nth M.rel a) (allW N &&& ~~~ S) = allW N := by
    have h64 := ok.most
    refine Sub.antisymm (fun k hk hb => ?_) fun k hk hb => ?_
    · rw [bt_or, Bool.or_eq_true] at hb
      rcases hb with hb | hb
      · exact agent_in ok ha _ k hk hb
      · exact agent_in ok ha _ k hk hb
    · have hkN : k < N := by rw [bt_allW] at hb; simp at hb; exact hb.2
      have hrow := (row_in ok ha).2 k hkN
      have hyN : ∀ y, y < 64 → bt (nth (nth M.rel a) k) y = true → y < N := fun y hy hb => by
        have := hrow y hy hb; rw [bt_allW] at this; simp at this; exact this.2
      rw [bt_or, Bool.or_eq_true]
      by_cases hs : bt S k = true
      · left
        exact (box_sub ok ha hk hkN).2 fun y hy hb => by rw [h k hkN y (hyN y hy hb) hb]; exact hs
      · right
        refine (box_sub ok ha hk hkN).2 fun y hy hb => ?_
        have := h k hkN y (hyN y hy hb) hb
        rw [bt_and, bt_not, bt_allW, this]
        simp at hs
        simp [hy, hyN y hy hb, hs]
  simp [valN, e]
theorem ob_knows {n : Int} {law : List Nd} {seen : List (List (List Nd))} (h : obErr n law seen = 0) {a : Nat} (ha : a < seen.length) {f : List Nd} (hf : f ∈ nth seen a) :
    semT (obM n law seen) (.bin 6 0 0 0 (.un 9 (a : Int) 0 0 (rt f)) (.un 9 (a : Int) 0 0 (.un 4 0 0 0 (rt f)))) = (allW (obS n law seen).length, true) := by
  have ok := ob_ok h
  have hfe := (obErr_ok h).sn _ (nth_mem ha) f hf
  obtain ⟨_, S, s1, s2⟩ := ob_sem h hfe
  refine know_whether ok (by rw [ob_rel h]; exact ha) s1 (by have := semT_in ok (rt f); rw [s1] at this; exact this) fun x hx y hy hb => ?_
  rw [ob_row h ha, bt_cell _ (ob_len h).1 hx hy] at hb
  rw [s2 x hx, s2 y hy]
  exact (alikeT_of.1 hb _ (List.mem_map.2 ⟨f, hf, rfl⟩)).symm
end Wt

/- Plain laws of observations: what agents know together; what a group learns; a product's parts. -/
namespace Wt
open Go Go.RowKit Go.Proofs Fm

theorem bt_meetRow (R : List (List (BitVec 64))) (G k N : Nat) {y : Nat} (hy : y < N) (h64 : y < 64) : ∀ q, bt (gRow (jOf true) (zOf true N) R G k q) y = allQ (fun q => !G.testBit q || bt (nth (nth R q) k) y) q
  | 0 => by
    show bt (allW N) y = true
    rw [bt_allW]; simp [hy, h64]
  | q + 1 => by
    have ih := bt_meetRow R G k N hy h64 q
    unfold allQ
    cases hg : G.testBit q
    · rw [gRow_no hg, ih]; simp
    · rw [gRow_yes hg]
      show bt (_ &&& _) y = _
      rw [bt_and, ih]; simp
theorem bt_joinRow (R : List (List (BitVec 64))) (G k N : Nat) {y : Nat} : ∀ q, bt (gRow (jOf false) (zOf false N) R G k q) y = true ↔ ∃ a, a < q ∧ G.testBit a = true ∧ bt (nth (nth R a) k) y = true
  | 0 => by
    show bt 0#64 y = true ↔ _
    rw [bt_zero]; simp
  | q + 1 => by
    have ih := bt_joinRow R G k N (y := y) q
    cases hg : G.testBit q
    · rw [gRow_no hg, ih]
      constructor
      · rintro ⟨a, h1, h2⟩
        exact ⟨a, by omega, h2⟩
      · rintro ⟨a, h1, h2, h3⟩
        rcases Nat.lt_or_ge a q with h | h
        · exact ⟨a, h, h2, h3⟩
        · obtain rfl : a = q := by omega
          rw [hg] at h2; cases h2
    · rw [gRow_yes hg]
      show bt (_ ||| _) y = true ↔ _
      rw [bt_or, Bool.or_eq_true, ih]
      constructor
      · rintro (⟨a, h1, h2⟩ | h)
        · exact ⟨a, by omega, h2⟩
        · exact ⟨q, by omega, hg, h⟩
      · rintro ⟨a, h1, h2, h3⟩
        rcases Nat.lt_or_ge a q with h | h
        · exact .inl ⟨a, h, h2, h3⟩
        · obtain rfl : a = q := by omega
          exact .inr h3
theorem mem_pool (seen : List (List (List Nd))) (g : Nat) (f : List Nd) : ∀ k, f ∈ poolTo seen g k ↔ ∃ a, a < k ∧ g.testBit a = true ∧ f ∈ nth seen a
  | 0 => by simp [poolTo]
  | k + 1 => by
    unfold poolTo
    rw [List.mem_append, mem_pool seen g f k]
    cases hg : g.testBit k
    · constructor
      · rintro (⟨a, h1, h2⟩ | h)
        · exact ⟨a, by omega, h2⟩
        · simp at h
      · rintro ⟨a, h1, h2, h3⟩
        rcases Nat.lt_or_ge a k with h | h
        · exact .inl ⟨a, h, h2, h3⟩
        · obtain rfl : a = k := by omega
          rw [hg] at h2; cases h2
    · constructor
      · rintro (⟨a, h1, h2⟩ | h)
        · exact ⟨a, by omega, h2⟩
        · exact ⟨k, by omega, hg, by simpa using h⟩
      · rintro ⟨a, h1, h2, h3⟩
        rcases Nat.lt_or_ge a k with h | h
        · exact .inl ⟨a, h, h2, h3⟩
        · obtain rfl : a = k := by omega
          exact .inr (by simpa using h3)
theorem pool_ob {n : Int} {law : List Nd} {seen : List (List (List Nd))} (h : obErr n law seen = 0) {g : Nat} (h16 : (poolTo seen g seen.length).length ≤ 16) : obErr n law [poolTo seen g seen.length] = 0 := by
  have ok := obErr_ok h
  have ht : ∀ f ∈ poolTo seen g seen.length, tabErr f n = 0 := fun f hf => by
    obtain ⟨a, h1, _, h3⟩ := (mem_pool seen g f _).1 hf
    exact ok.sn _ (nth_mem h1) f h3
  have hz : ∀ l : List (List Nd), (∀ f ∈ l, tabErr f n = 0) → tabsErr n l = 0 := by
    intro l
    induction l with
    | nil => intro _; rfl
    | cons x l ih =>
      intro hl
      unfold tabsErr
      rw [if_neg (by simp [hl x (by simp)])]
      exact ih fun f hf => hl f (by simp [hf])
  unfold obErr
  rw [if_neg (by simp; omega), if_neg (by simp [ok.lw])]
  have hs : seenErr n [poolTo seen g seen.length] = 0 := by
    unfold seenErr
    rw [if_neg (by simp [hz _ ht])]; rfl
  rw [if_neg (by simp [hs]), if_neg ok.some]
theorem ob_obS {n : Int} {law : List Nd} {seen seen' : List (List (List Nd))} (h : obErr n law seen = 0) (h' : obErr n law seen' = 0) : obS n law seen = obS n law seen' := by
  have e : obS n law seen = memL (tabOf law n) := if_pos h
  have e' : obS n law seen' = memL (tabOf law n) := if_pos h'
  rw [e, e']
/-- What the agents know together is what one agent knows that observes everything that they observe. -/
theorem together_law {n : Int} {law : List Nd} {seen : List (List (List Nd))} (h : obErr n law seen = 0) {G : Nat} (h1 : 1 ≤ G) (h2 : (G : Int) < p2 seen.length) (h16 : (poolTo seen G seen.length).length ≤ 16) {t : Fm} {s : BitVec 64}
    (hs : semT (obM n law seen) t = (s, true)) (hs' : semT (obM n law [poolTo seen G seen.length]) t = (s, true)) :
    semT (obM n law seen) (.un 12 0 0 (G : Int) t) = semT (obM n law [poolTo seen G seen.length]) (.un 9 0 0 0 t) ∧ (semT (obM n law seen) (.un 12 0 0 (G : Int) t)).2 = true := by
  have h' := pool_ob h h16
  have ok := ob_ok h
  have hrl := ob_rel h
  have hrl' := ob_rel h'
  have e : meetOf (obM n law seen) G = nth (obM n law [poolTo seen G seen.length]).rel 0 := by
    have hm := meet_in ok h1 (by rw [hrl]; exact h2)
    have hr := ob_row h' (a := 0) (by simp)
    have hS := ob_obS h h'
    rw [hr, ← hS]
    refine nth_ext (by rw [hm.1, cellR_len]) fun k hk => ?_
    rw [hm.1] at hk
    have hsub := hm.2 k hk
    refine bt_ext fun y hy => ?_
    by_cases hyN : y < (obS n law seen).length
    · rw [meet_row ok h1 (by rw [hrl]; exact h2) hk, bt_meetRow _ _ _ _ hyN hy, bt_cell _ (ob_len h).1 hk hyN, Bool.eq_iff_iff, allQ_iff, alikeT_of]
      constructor
      · intro hq t ht
        obtain ⟨f, hf, rfl⟩ := List.mem_map.1 ht
        have hf : f ∈ poolTo seen G seen.length := hf
        obtain ⟨a, a1, a2, a3⟩ := (mem_pool seen G f _).1 hf
        have := hq a (by rw [hrl]; exact a1)
        rw [a2, ob_row h a1, bt_cell _ (ob_len h).1 hk hyN] at this
        exact alikeT_of.1 (by simpa using this) _ (List.mem_map.2 ⟨f, a3, rfl⟩)
      · intro hq a ha
        rw [hrl] at ha
        cases hg : G.testBit a
        · rfl
        · rw [ob_row h ha, bt_cell _ (ob_len h).1 hk hyN]
          show alikeT _ _ _ = true
          refine alikeT_of.2 fun t ht => ?_
          obtain ⟨f, hf, rfl⟩ := List.mem_map.1 ht
          refine hq _ (List.mem_map.2 ⟨f, ?_, rfl⟩)
          exact (mem_pool seen G f _).2 ⟨a, ha, hg, hf⟩
    · have e1 : bt (nth (meetOf (obM n law seen) G) k) y = false := by
        cases hb : bt (nth (meetOf (obM n law seen) G) k) y
        · rfl
        · have := hsub y hy hb
          rw [bt_allW] at this; simp at this; omega
      rw [e1, cellR_nth _ hk, bt_setTo _ hy]; simp [hyN]
  have hng : ¬ (p2 (obM n law seen).rel.length ≤ (G : Int)) := by rw [hrl]; omega
  have hng2 : ¬ (((obM n law [poolTo seen G seen.length]).rel.length : Int) ≤ 0) := by rw [hrl']; simp
  have a1 : semT (obM n law seen) (.un 12 0 0 (G : Int) t) = (relBox (meetOf (obM n law seen) G) s, true) := by
    rw [semT_un _ _ _ _ (by rw [hs]), hs]; simp [valN, hng]
  have a2 : semT (obM n law [poolTo seen G seen.length]) (.un 9 0 0 0 t) = (relBox (nth (obM n law [poolTo seen G seen.length]).rel 0) s, true) := by
    rw [semT_un _ _ _ _ (by rw [hs']), hs']
    unfold valN
    simp only [show ¬ ((9 : Int) = 1) by omega, show ¬ ((9 : Int) = 2) by omega, show ¬ ((9 : Int) = 3) by omega, show ¬ ((9 : Int) = 4) by omega, show ¬ ((9 : Int) = 5) by omega, show ¬ ((9 : Int) = 6) by omega, show ¬ ((9 : Int) = 7) by omega, show ¬ ((9 : Int) = 8) by omega, if_false, if_true, hng2]
    rfl
  rw [a1, a2, e]; exact ⟨rfl, rfl⟩
/-- A propositional formula's set hangs on the facts alone. -/
theorem sem_same {A B : Mo} (hw : A.worlds = B.worlds) (hv : A.val = B.val) : ∀ t, propT t → semT A t = semT B t := by
  have key : ∀ (o i g : Int) (x y : BitVec 64), o ≤ 8 → valN A o i g x y = valN B o i g x y := by
    intro o i g x y ho
    unfold valN
    rw [hw, hv, if_neg (show ¬ o = 9 by omega), if_neg (show ¬ o = 9 by omega), if_neg (show ¬ o = 10 by omega), if_neg (show ¬ o = 10 by omega), if_neg (show ¬ o = 11 by omega), if_neg (show ¬ o = 11 by omega), if_neg (show ¬ o = 12 by omega), if_neg (show ¬ o = 12 by omega), if_neg (show ¬ o = 13 by omega), if_neg (show ¬ o = 13 by omega)]
  intro t
  induction t with
  | leaf o i e g => intro h; exact key o i g _ _ h
  | un o i e g x ih => intro h; simp only [semT]; rw [ih h.2, key _ _ _ _ _ h.1]
  | bin o i e g x y ih1 ih2 => intro h; simp only [semT]; rw [ih1 h.2.1, ih2 h.2.2, key _ _ _ _ _ h.1]
theorem revErr_ok {M : Mo} {g : Int} {f : List Nd} (h : revErr M g f = 0) : reqErr M f = 0 ∧ 1 ≤ g ∧ g < p2 M.rel.length := by
  unfold revErr at h
  by_cases h1 : reqErr M f = 0
  · rw [if_neg (by simp [h1])] at h
    by_cases h2 : g < 1 ∨ p2 M.rel.length ≤ g
    · rw [if_pos h2] at h; omega
    · exact ⟨h1, by omega, by omega⟩
  · rw [if_pos h1] at h; exact absurd h h1
theorem whRow_len (s : BitVec 64) (r : List (BitVec 64)) : (whRow s r).length = r.length := by simp [whRow]
theorem whRow_at (s : BitVec 64) (r : List (BitVec 64)) {w : Nat} (h : w < r.length) : nth (whRow s r) w = if bt s w then nth r w &&& s else nth r w &&& ~~~ s := by
  unfold whRow
  rw [nth_mapN _ _ (by simpa using h), nth_range h]
theorem bt_whRow (s : BitVec 64) (r : List (BitVec 64)) {w y : Nat} (h : w < r.length) (hy : y < 64) : bt (nth (whRow s r) w) y = (bt (nth r w) y && (bt s y == bt s w)) := by
  rw [whRow_at _ _ h]
  cases hs : bt s w
  · rw [if_neg (by simp), bt_and, bt_not]; simp [hy]
  · rw [if_pos rfl, bt_and]; simp
theorem rev_ok {M : Mo} {N : Nat} (ok : MoOk M N) {g : Int} {f : List Nd} (h : revErr M g f = 0) : MoOk (revM M g f) N ∧ revM M g f = ⟨M.worlds, M.val, (List.range M.rel.length).map (revR M g.toNat (holdsOf M f))⟩ := by
  have e : revM M g f = ⟨M.worlds, M.val, (List.range M.rel.length).map (revR M g.toNat (holdsOf M f))⟩ := if_pos h
  refine ⟨?_, e⟩
  rw [e]
  refine ⟨ok.worlds, ok.one, ok.most, by simpa using ok.rel, ok.val, ?_, ok.valIn, ?_⟩
  · intro r hr
    obtain ⟨a, ha, rfl⟩ := List.mem_map.1 hr
    have ha : a < M.rel.length := by simpa using ha
    have := ok.row _ (nth_mem ha)
    unfold revR
    split
    · rw [whRow_len]; exact this
    · exact this
  · intro r hr s hs
    obtain ⟨a, ha, rfl⟩ := List.mem_map.1 hr
    have ha : a < M.rel.length := by simpa using ha
    have hl := ok.row _ (nth_mem ha)
    unfold revR at hs
    split at hs
    · obtain ⟨k, hk, rfl⟩ := mem_nth hs
      rw [whRow_len] at hk
      refine andNot_zero.2 fun y hy hb => ?_
      rw [bt_whRow _ _ hk hy] at hb
      simp at hb
      exact andNot_zero.1 (ok.relIn _ (nth_mem ha) _ (nth_mem hk)) y hy hb.1
    · exact ok.relIn _ (nth_mem ha) _ hs
theorem rev_row {M : Mo} {g : Int} {f : List Nd} (h : revErr M g f = 0) {a : Nat} (ha : a < M.rel.length) : nth (revM M g f).rel a = revR M g.toNat (holdsOf M f) a := by
  have e : revM M g f = ⟨M.worlds, M.val, (List.range M.rel.length).map (revR M g.toNat (holdsOf M f))⟩ := if_pos h
  rw [e]
  show nth ((List.range M.rel.length).map _) a = _
  rw [nth_mapN _ _ (by simpa using ha), nth_range ha]
/-- An agent of the group knows whether the revealed propositional formula holds. -/
theorem rev_knows {M : Mo} {N : Nat} (ok : MoOk M N) {g : Int} {f : List Nd} (h : revErr M g f = 0) (hp : fFrags f = 0) {a : Nat} (ha : a < M.rel.length) (hg : g.toNat.testBit a = true) :
    semT (revM M g f) (.bin 6 0 0 0 (.un 9 (a : Int) 0 0 (rt f)) (.un 9 (a : Int) 0 0 (.un 4 0 0 0 (rt f)))) = (allW N, true) := by
  obtain ⟨ok2, e⟩ := rev_ok ok h
  obtain ⟨hq, _, _⟩ := revErr_ok h
  have hc := (reqErr_ok hq).2.1
  obtain ⟨s1, s2⟩ := set_sem ok.check (IsF.of hc)
  rw [hq] at s1
  have hsem : semT (revM M g f) (rt f) = (holdsOf M f, true) := by
    rw [sem_same (A := revM M g f) (B := M) (by rw [e]) (by rw [e]) _ (prop_frags hc hp), s2]
    exact Prod.ext_iff.2 ⟨rfl, s1.symm⟩
  have har : a < (revM M g f).rel.length := by rw [e]; simpa using ha
  refine know_whether ok2 har hsem (holds_in ok f) fun x hx y hy hb => ?_
  rw [rev_row h ha] at hb
  unfold revR at hb
  rw [if_pos hg, bt_whRow _ _ (by rw [ok.row _ (nth_mem ha)]; exact hx) (by have := ok.most; omega)] at hb
  simp at hb
  exact hb.2
/-- Is a relation an equivalence? -/
def eqvB (r : List (BitVec 64)) : Bool := allQ (fun x => bt (nth r x) x && allQ (fun y => !bt (nth r x) y || (nth r x == nth r y)) r.length) r.length
theorem eqvB_iff {r : List (BitVec 64)} : eqvB r = true ↔ ∀ x, x < r.length → bt (nth r x) x = true ∧ ∀ y, y < r.length → bt (nth r x) y = true → nth r x = nth r y := by
  unfold eqvB
  rw [allQ_iff]
  refine forall_congr' fun x => forall_congr' fun hx => ?_
  rw [Bool.and_eq_true, allQ_iff]
  refine and_congr_right fun _ => forall_congr' fun y => forall_congr' fun hy => ?_
  cases bt (nth r x) y <;> simp
theorem eqv_whRow {r : List (BitVec 64)} (h64 : r.length ≤ 64) (s : BitVec 64) (h : eqvB r = true) : eqvB (whRow s r) = true := by
  rw [eqvB_iff] at h ⊢
  rw [whRow_len]
  intro x hx
  obtain ⟨h1, h2⟩ := h x hx
  refine ⟨by rw [bt_whRow _ _ hx (by omega), h1]; simp, fun y hy hb => ?_⟩
  rw [bt_whRow _ _ hx (by omega)] at hb
  simp at hb
  obtain ⟨b1, b2⟩ := hb
  have e := h2 y hy b1
  rw [whRow_at _ _ hx, whRow_at _ _ hy, e, b2]
theorem rev_eqv {M : Mo} {N : Nat} (ok : MoOk M N) {g : Int} {f : List Nd} (h : revErr M g f = 0) {a : Nat} (ha : a < M.rel.length) (he : eqvB (nth M.rel a) = true) : eqvB (nth (revM M g f).rel a) = true := by
  rw [rev_row h ha]
  unfold revR
  split
  · exact eqv_whRow (by rw [ok.row _ (nth_mem ha)]; exact ok.most) _ he
  · exact he
end Wt

/- Plain laws of observations: formulas about the first one of two models side by side. -/
namespace Wt
open Go Go.RowKit Go.Proofs Fm

/-- Worlds of one relation lie over worlds of another one, and so do its arrows, which lift. -/
structure Bmo (r r' : List (BitVec 64)) (N : Nat) (ws : List Nat) : Prop where
  len : r.length = N
  len' : r'.length = ws.length
  inN : ∀ v, v < N → Sub (nth r v) (allW N)
  inW : ∀ v, v < ws.length → Sub (nth r' v) (allW ws.length)
  fwd : ∀ i j, i < ws.length → j < ws.length → bt (nth r' i) j = true → bt (nth r (nth ws i)) (nth ws j) = true
  bck : ∀ i u, i < ws.length → bt (nth r (nth ws i)) u = true → ∃ j, j < ws.length ∧ nth ws j = u ∧ bt (nth r' i) j = true
section
variable {N : Nat} {ws : List Nat} (h64 : N ≤ 64) (hl : ws.length ≤ 64) (hlt : ∀ i, i < ws.length → nth ws i < N)
include h64 hl hlt
theorem box_bmo {r r' : List (BitVec 64)} (hA : Bmo r r' N ws) {x' x : BitVec 64} (h : Agr ws x' x) : Agr ws (relBox r' x') (relBox r x) := fun i hi => by
  have hi64 : i < 64 := by omega
  have hwi := hlt i hi
  rw [bt_relBox _ _ _ hi64, bt_relBox _ _ _ (by omega), hA.len, hA.len', rel_ok hA.len h64 hA.inN, rel_ok hA.len' hl hA.inW]
  have e : (nth r' i &&& ~~~ x' == 0#64) = (nth r (nth ws i) &&& ~~~ x == 0#64) := by
    rw [Bool.eq_iff_iff, sub_bool, sub_bool]
    constructor
    · intro h2 u hu hb
      obtain ⟨j, hj, rfl, hb'⟩ := hA.bck i u hi hb
      have h3 := h2 j (by omega) hb'
      rw [h j hj] at h3; exact h3
    · intro h2 j hj hb
      have hjw : j < ws.length := by have := hA.inW i hi j hj hb; rw [bt_allW] at this; simp at this; exact this.2
      rw [h j hjw]
      exact h2 _ (by have := hlt j hjw; omega) (hA.fwd i j hi hjw hb)
  rw [e]; simp [hi, hwi]
theorem cmnI_bmo {r r' : List (BitVec 64)} (hA : Bmo r r' N ws) {c' c s' s : BitVec 64} (hc : Agr ws c' c) (hs : Agr ws s' s) : ∀ k, Agr ws (cmnI r' ws.length c' s' k) (cmnI r N c s k)
  | 0 => all_agr h64 hl hlt
  | k + 1 => box_bmo h64 hl hlt hA (or_agr (not_agr h64 hl hlt hc) (and_agr hs (cmnI_bmo hA hc hs k)))
theorem cmn_bmo (hN : N ≤ ws.length) {r r' : List (BitVec 64)} (hA : Bmo r r' N ws) {c' c s' s : BitVec 64} (hc : Agr ws c' c) (hs : Agr ws s' s) : Agr ws (cmn r' ws.length c' s') (cmn r N c s) := by
  have hfix := cmnI_fix r N (by rw [hA.len]; exact Nat.le_refl _) c s
  have hk := cmnI_const r N c s N hfix (ws.length - N)
  rw [show N + (ws.length - N) = ws.length by omega] at hk
  unfold cmn
  rw [← hk]
  exact cmnI_bmo h64 hl hlt hA hc hs ws.length
end
/-- A model that lies over another one. -/
structure Bmod (A M : Mo) (N : Nat) (ws : List Nat) : Prop where
  okA : MoOk A N
  okM : MoOk M ws.length
  lt : ∀ i, i < ws.length → nth ws i < N
  le : N ≤ ws.length
  rel : M.rel.length = A.rel.length
  val : A.val.length ≤ M.val.length
  fact : ∀ k, k < A.val.length → Agr ws (nth M.val k) (nth A.val k)
  agent : ∀ q, q < A.rel.length → Bmo (nth A.rel q) (nth M.rel q) N ws
  group : ∀ G : Nat, 1 ≤ G → (G : Int) < p2 A.rel.length → Bmo (groupOf A G) (groupOf M G) N ws
  meet : ∀ G : Nat, 1 ≤ G → (G : Int) < p2 A.rel.length → Bmo (meetOf A G) (meetOf M G) N ws
/-- If the one answers, the other one does, and the answers agree. -/
def AgrI (ws : List Nat) (p' p : BitVec 64 × Bool) : Prop := p.2 = true → p'.2 = true ∧ Agr ws p'.1 p.1
theorem agrI_ite {ws : List Nat} {c : Prop} [Decidable c] {a' a b' b : BitVec 64 × Bool} (h1 : c → AgrI ws a' a) (h2 : ¬ c → AgrI ws b' b) : AgrI ws (if c then a' else b') (if c then a else b) := by
  by_cases hc : c
  · rw [if_pos hc, if_pos hc]; exact h1 hc
  · rw [if_neg hc, if_neg hc]; exact h2 hc
theorem agrI_no {ws : List Nat} {p' : BitVec 64 × Bool} {x : BitVec 64} : AgrI ws p' (x, false) := fun h => by cases h
theorem agrI_yes {ws : List Nat} {x' x : BitVec 64} (h : Agr ws x' x) : AgrI ws (x', true) (x, true) := fun _ => ⟨rfl, h⟩
theorem AgrP.imp {ws : List Nat} {p' p : BitVec 64 × Bool} (h : AgrP ws p' p) : AgrI ws p' p := fun e => ⟨by rw [h.1]; exact e, h.2⟩
section
variable {A M : Mo} {N : Nat} {ws : List Nat} (h : Bmod A M N ws)
include h
theorem dia_bmo {q : Nat} (hq : q < A.rel.length) {x' x : BitVec 64} (hx : Agr ws x' x) : Agr ws (relDia (nth M.rel q) x') (relDia (nth A.rel q) x) := by
  rw [← dual_law h.okA hq, ← dual_law h.okM (by rw [h.rel]; exact hq)]
  exact not_agr h.okA.most h.okM.most h.lt (box_bmo h.okA.most h.okM.most h.lt (h.agent q hq) (not_agr h.okA.most h.okM.most h.lt hx))
theorem valN_bmo (o i g : Int) (h0 : o = 3 → 0 ≤ i) {x' x y' y : BitVec 64} (hx : Agr ws x' x) (hy : Agr ws y' y) : AgrI ws (valN M o i g x' y') (valN A o i g x y) := by
  have hA : M.worlds.toNat = ws.length := by rw [h.okM.worlds]; exact Int.toNat_natCast _
  have hM : A.worlds.toNat = N := by rw [h.okA.worlds]; exact Int.toNat_natCast N
  have hr := h.rel
  have h64 := h.okA.most
  have hl := h.okM.most
  have all := all_agr h64 hl h.lt
  have nt : ∀ {a' a : BitVec 64}, Agr ws a' a → Agr ws (allW ws.length &&& ~~~ a') (allW N &&& ~~~ a) := fun ha => not_agr h64 hl h.lt ha
  have bx : ∀ {r r' : List (BitVec 64)}, Bmo r r' N ws → ∀ {a' a : BitVec 64}, Agr ws a' a → Agr ws (relBox r' a') (relBox r a) := by
    intro r r' hr a' a ha
    exact box_bmo h64 hl h.lt hr ha
  have grp : ∀ {j : BitVec 64 → BitVec 64 → BitVec 64}, (∀ G : Nat, 1 ≤ G → (G : Int) < p2 A.rel.length → Bmo (gather j A G) (gather j M G) N ws) → ¬ p2 A.rel.length ≤ g → Agr ws (relBox (gather j M g) x') (relBox (gather j A g) x) := by
    intro j hj hg
    by_cases hg1 : g < 1
    · rw [gather_no j hg1, gather_no j hg1, relBox_nil, relBox_nil]; exact zero_agr ws
    · obtain ⟨G, rfl⟩ := Int.eq_ofNat_of_zero_le (show 0 ≤ g by omega)
      exact bx (hj G (by omega) (by omega)) hx
  unfold valN
  rw [hA, hM, hr]
  refine agrI_ite (fun _ => agrI_yes all) fun _ => agrI_ite (fun _ => (zero_agrP ws true).imp) fun _ => agrI_ite (fun e3 => ?_) fun _ => agrI_ite (fun _ => agrI_yes (nt hx)) fun _ => agrI_ite (fun _ => agrI_yes (and_agr hx hy)) fun _ => agrI_ite (fun _ => agrI_yes (or_agr hx hy)) fun _ => agrI_ite (fun _ => agrI_yes (or_agr (nt hx) hy)) fun _ => agrI_ite (fun _ => agrI_yes (nt (xor_agr hx hy))) fun _ => agrI_ite (fun _ => agrI_ite (fun _ => agrI_no) fun hi => agrI_yes ?_) fun _ => agrI_ite (fun _ => agrI_ite (fun _ => agrI_no) fun hi => agrI_yes ?_) fun _ => agrI_ite (fun _ => agrI_ite (fun _ => agrI_no) fun hg => agrI_yes (grp h.group hg)) fun _ => agrI_ite (fun _ => agrI_ite (fun _ => agrI_no) fun hg => agrI_yes (grp h.meet hg)) fun _ => agrI_ite (fun _ => agrI_ite (fun _ => agrI_no) fun hg => agrI_yes ?_) fun _ => agrI_no
  · have hi0 := h0 e3
    by_cases hi : (A.val.length : Int) ≤ i
    · rw [if_pos hi]; exact agrI_no
    · have := h.val
      rw [if_neg hi, if_neg (by omega)]
      exact agrI_yes (h.fact i.toNat (by omega))
  · by_cases hk : i.toNat < A.rel.length
    · exact bx (h.agent _ hk) hx
    · rw [nth_out (by rw [hr]; omega), nth_out (by omega), show (default : List (BitVec 64)) = [] from rfl, relBox_nil, relBox_nil]; exact zero_agr ws
  · by_cases hk : i.toNat < A.rel.length
    · exact dia_bmo h hk hx
    · rw [nth_out (by rw [hr]; omega), nth_out (by omega), show (default : List (BitVec 64)) = [] from rfl, relDia_nil, relDia_nil]; exact zero_agr ws
  · by_cases hg1 : g < 1
    · have e1 : groupOf M g = [] := gather_no _ hg1
      have e2 : groupOf A g = [] := gather_no _ hg1
      rw [e1, e2, cmn_nil h.okM.one, cmn_nil h.okA.one]; exact zero_agr ws
    · obtain ⟨G, rfl⟩ := Int.eq_ofNat_of_zero_le (show 0 ≤ g by omega)
      exact cmn_bmo h64 hl h.lt h.le (h.group G (by omega) (by omega)) hx hy
end
theorem wide_fact {o i e g : Int} (h : wide (useOf o).1 ⟨o, i, e, g, 0, 0⟩ = false) (h3 : o = 3) : 0 ≤ i := by
  subst h3
  have e1 : (useOf 3).1 = ⟨false, false, true, false, false, false, 0⟩ := by decide
  rw [e1] at h
  simp [wide, outs] at h
  exact h.1
/-- The sets of a tree agree. -/
theorem sem_bmo {A M : Mo} {N : Nat} {ws : List Nat} (h : Bmod A M N ws) : ∀ t, fok t → AgrI ws (semT M t) (semT A t)
  | .leaf o i e g => fun hk => valN_bmo h o i g (wide_fact hk.2.2.2) (zero_agr ws) (zero_agr ws)
  | .un o i e g x => fun hk e2 => by
    have ih := sem_bmo h x hk.2.2.2.2.2
    simp only [semT] at e2 ⊢
    by_cases hx : (semT A x).2 = true
    · obtain ⟨i1, i2⟩ := ih hx
      rw [if_pos hx] at e2 ⊢
      rw [if_pos i1]
      exact valN_bmo h o i g (wide_fact hk.2.2.2.2.1) i2 (zero_agr ws) e2
    · rw [if_neg hx] at e2; cases e2
  | .bin o i e g x y => fun hk e2 => by
    have ih := sem_bmo h x hk.2.2.2.2.1
    have ih2 := sem_bmo h y hk.2.2.2.2.2
    simp only [semT] at e2 ⊢
    by_cases hx : ((semT A x).2 && (semT A y).2) = true
    · have hx' := hx
      rw [Bool.and_eq_true] at hx'
      obtain ⟨i1, i2⟩ := ih hx'.1
      obtain ⟨j1, j2⟩ := ih2 hx'.2
      rw [if_pos hx] at e2 ⊢
      rw [if_pos (by rw [i1, j1]; rfl)]
      exact valN_bmo h o i g (wide_fact hk.2.2.2.1) i2 j2 e2
    · rw [if_neg hx] at e2; cases e2
theorem nth_append_left {α : Type} [Inhabited α] {l m : List α} {k : Nat} (h : k < l.length) : nth (l ++ m) k = nth l k := by
  rw [nth_eq _ _ h, nth_eq _ _ (by rw [List.length_append]; omega), List.getElem_append_left h]
/-! The product. -/
theorem prErr_ok {A B : Mo} (h : prErr A B = 0) : ∃ N m, MoOk A N ∧ MoOk B m ∧ A.rel.length = B.rel.length ∧ N * m ≤ 64 ∧ A.val.length + B.val.length ≤ 8 := by
  unfold prErr at h
  by_cases h1 : moCheck A = 0
  · rw [if_neg (by simp [h1])] at h
    by_cases h2 : moCheck B = 0
    · rw [if_neg (by simp [h2])] at h
      by_cases h3 : A.rel.length = B.rel.length
      · rw [if_neg (by simp [h3])] at h
        by_cases h4 : 64 < A.worlds * B.worlds ∨ 8 < A.val.length + B.val.length
        · rw [if_pos h4] at h; omega
        · obtain ⟨N, okA⟩ := moCheck_ok h1
          obtain ⟨m, okB⟩ := moCheck_ok h2
          refine ⟨N, m, okA, okB, h3, ?_, by omega⟩
          have e : A.worlds * B.worlds = ((N * m : Nat) : Int) := by rw [okA.worlds, okB.worlds]; simp
          omega
      · rw [if_pos h3] at h; omega
    · rw [if_pos h2] at h; exact absurd h h2
  · rw [if_pos h1] at h; exact absurd h h1
theorem pairL_len (n m : Nat) : (pairL n m).length = n * m := by simp [pairL]
theorem pairL_nth {n m i : Nat} (h : i < n * m) : nth (pairL n m) i = (i / m, i % m) := by
  unfold pairL; rw [nth_mapN _ _ (by simpa using h), nth_range h]
theorem bt_both {l : List (Nat × Nat)} (s t : BitVec 64) {j : Nat} (h : j < 64) : bt (bothS l s t) j = (decide (j < l.length) && (bt s (nth l j).1 && bt t (nth l j).2)) := bt_setTo _ h _
section
variable {A B : Mo} {N m : Nat} (okA : MoOk A N) (okB : MoOk B m) (h : prErr A B = 0)
include okA okB h
theorem prL_eq : prL A B = pairL N m := by
  have e : prL A B = pairL A.worlds.toNat B.worlds.toNat := if_pos h
  rw [e, okA.worlds, okB.worlds]; simp
theorem prM_eq : prM A B = ⟨((N * m : Nat) : Int), A.val.map (fun s => bothS (pairL N m) s (allW m)) ++ B.val.map (fun t => bothS (pairL N m) (allW N) t), (List.range A.rel.length).map fun i => prR (pairL N m) (nth A.rel i) (nth B.rel i)⟩ := by
  have e : prM A B = ⟨((prL A B).length : Int), A.val.map (fun s => bothS (prL A B) s (allW B.worlds.toNat)) ++ B.val.map (fun t => bothS (prL A B) (allW A.worlds.toNat) t), (List.range A.rel.length).map fun i => prR (prL A B) (nth A.rel i) (nth B.rel i)⟩ := if_pos h
  have ea : A.worlds.toNat = N := by rw [okA.worlds]; exact Int.toNat_natCast _
  have eb : B.worlds.toNat = m := by rw [okB.worlds]; exact Int.toNat_natCast _
  rw [e, prL_eq okA okB h, pairL_len, ea, eb]
theorem pr_size : N * m ≤ 64 ∧ A.rel.length = B.rel.length ∧ A.val.length + B.val.length ≤ 8 := by
  obtain ⟨N', m', a, b, c, d, e⟩ := prErr_ok h
  have e1 : (N : Int) = N' := by rw [← okA.worlds, ← a.worlds]
  have e2 : (m : Int) = m' := by rw [← okB.worlds, ← b.worlds]
  obtain rfl : N = N' := by omega
  obtain rfl : m = m' := by omega
  exact ⟨d, c, e⟩
omit okA okB h in
theorem both_in (s t : BitVec 64) : Sub (bothS (pairL N m) s t) (allW (N * m)) := by
  have := setTo_in (fun i => bt s (nth (pairL N m) i).1 && bt t (nth (pairL N m) i).2) (pairL N m).length
  rw [pairL_len] at this
  unfold bothS; rw [pairL_len]; exact this
theorem pr_ok : MoOk (prM A B) (N * m) := by
  obtain ⟨s1, s2, s3⟩ := pr_size okA okB h
  rw [prM_eq okA okB h]
  refine ⟨rfl, Nat.mul_pos okA.one okB.one, s1, by simpa using okA.rel, by simpa using s3, ?_, ?_, ?_⟩
  · intro r hr
    obtain ⟨a, ha, rfl⟩ := List.mem_map.1 hr
    simp [prR, pairL_len]
  · intro s hs
    rcases List.mem_append.1 hs with hs | hs
    · obtain ⟨a, ha, rfl⟩ := List.mem_map.1 hs
      exact andNot_zero.2 (both_in _ _)
    · obtain ⟨a, ha, rfl⟩ := List.mem_map.1 hs
      exact andNot_zero.2 (both_in _ _)
  · intro r hr s hs
    obtain ⟨a, ha, rfl⟩ := List.mem_map.1 hr
    obtain ⟨p, hp, rfl⟩ := List.mem_map.1 hs
    exact andNot_zero.2 (both_in _ _)
theorem pr_cell {q i j : Nat} (hq : q < A.rel.length) (hi : i < N * m) (hj : j < N * m) : bt (nth (nth (prM A B).rel q) i) j = (bt (nth (nth A.rel q) (i / m)) (j / m) && bt (nth (nth B.rel q) (i % m)) (j % m)) := by
  obtain ⟨s1, s2, s3⟩ := pr_size okA okB h
  rw [prM_eq okA okB h]
  show bt (nth (nth ((List.range A.rel.length).map _) q) i) j = _
  rw [nth_mapN _ _ (by simpa using hq), nth_range hq]
  unfold prR
  rw [nth_mapN _ _ (by rw [pairL_len]; exact hi), pairL_nth hi, bt_both _ _ (by omega), pairL_nth hj, pairL_len]
  simp [hj]
/-- The first parts of the pairs. -/
def fstL (N m : Nat) : List Nat := (List.range (N * m)).map (· / m)
omit okA okB h in
theorem fstL_len (N m : Nat) : (fstL N m).length = N * m := by simp [fstL]
omit okA okB h in
theorem fstL_nth {N m i : Nat} (hi : i < N * m) : nth (fstL N m) i = i / m := by
  unfold fstL; rw [nth_mapN _ _ (by simpa using hi), nth_range hi]
theorem pr_bmod (he : ∀ q, q < A.rel.length → ∀ v, v < m → bt (nth (nth B.rel q) v) v = true) : Bmod A (prM A B) N (fstL N m) := by
  obtain ⟨s1, s2, s3⟩ := pr_size okA okB h
  have okM := pr_ok okA okB h
  have hm0 : 0 < m := okB.one
  have dlt : ∀ i, i < N * m → i / m < N := fun i hi => Nat.div_lt_of_lt_mul (by rw [Nat.mul_comm]; exact hi)
  have mlt : ∀ i, i % m < m := fun i => Nat.mod_lt _ hm0
  have hrel : (prM A B).rel.length = A.rel.length := by rw [prM_eq okA okB h]; simp
  -- the world beside a world
  have lift : ∀ i u, i < N * m → u < N → ∃ j, j < N * m ∧ j / m = u ∧ j % m = i % m := fun i u hi hu => by
    refine ⟨m * u + i % m, ?_, ?_, ?_⟩
    · have h1 := mlt i
      have h2 : m * (u + 1) ≤ m * N := Nat.mul_le_mul_left m hu
      rw [Nat.mul_comm N m]
      rw [Nat.mul_add, Nat.mul_one] at h2; omega
    · rw [Nat.mul_add_div hm0, Nat.div_eq_of_lt (mlt i)]; omega
    · rw [Nat.mul_add_mod, Nat.mod_mod]
  have inN : ∀ {r : List (BitVec 64)}, (∀ v, v < N → Sub (nth r v) (allW N)) → ∀ v u, v < N → bt (nth r v) u = true → u < N := by
    intro r hr v u hv hb
    have h64 := bt_lt64 hb
    have := hr v hv u h64 hb
    rw [bt_allW] at this; simp at this; exact this.2
  have mk : ∀ {r r' : List (BitVec 64)}, r.length = N ∧ (∀ v, v < N → Sub (nth r v) (allW N)) → r'.length = N * m ∧ (∀ v, v < N * m → Sub (nth r' v) (allW (N * m))) →
      (∀ i j, i < N * m → j < N * m → bt (nth r' i) j = true → bt (nth r (i / m)) (j / m) = true) →
      (∀ i u j, i < N * m → u < N → j < N * m → j / m = u → j % m = i % m → bt (nth r (i / m)) u = true → bt (nth r' i) j = true) → Bmo r r' N (fstL N m) := by
    intro r r' h1 h2 h3 h4
    refine ⟨h1.1, by rw [fstL_len]; exact h2.1, h1.2, by rw [fstL_len]; exact h2.2, ?_, ?_⟩
    · intro i j hi hj hb
      rw [fstL_len] at hi hj
      rw [fstL_nth hi, fstL_nth hj]
      exact h3 i j hi hj hb
    · intro i u hi hb
      rw [fstL_len] at hi
      rw [fstL_nth hi] at hb
      have hu := inN h1.2 _ _ (dlt i hi) hb
      obtain ⟨j, j1, j2, j3⟩ := lift i u hi hu
      exact ⟨j, by rw [fstL_len]; exact j1, by rw [fstL_nth j1]; exact j2, h4 i u j hi hu j1 j2 j3 hb⟩
  refine ⟨okA, by rw [fstL_len]; exact okM, fun i hi => by rw [fstL_len] at hi; rw [fstL_nth hi]; exact dlt i hi, by rw [fstL_len]; exact Nat.le_mul_of_pos_right N hm0, hrel, by rw [prM_eq okA okB h]; simp, ?_, ?_, ?_, ?_⟩
  · intro k hk i hi
    rw [fstL_len] at hi
    have e : nth (prM A B).val k = bothS (pairL N m) (nth A.val k) (allW m) := by
      rw [prM_eq okA okB h]
      show nth (_ ++ _) k = _
      rw [nth_append_left (by simpa using hk), nth_mapN _ _ hk]
    rw [e, fstL_nth hi, bt_both _ _ (by omega), pairL_nth hi, pairL_len, bt_allW]
    have h1 := mlt i
    have h2 := okB.most
    have h3 : i % m < 64 := by omega
    simp [hi, h1, h3]
  · intro q hq
    refine mk (row_in okA hq) (row_in okM (by rw [hrel]; exact hq)) ?_ ?_
    · intro i j hi hj hb
      rw [pr_cell okA okB h hq hi hj, Bool.and_eq_true] at hb
      exact hb.1
    · intro i u j hi hu hj e1 e2 hb
      rw [pr_cell okA okB h hq hi hj, e1, e2, hb, he q hq _ (mlt i)]; rfl
  · intro G h1 h2
    have h2' : (G : Int) < p2 (prM A B).rel.length := by rw [hrel]; exact h2
    refine mk (group_in okA h1 h2) (group_in okM h1 h2') ?_ ?_
    · intro i j hi hj hb
      rw [group_row okM h1 h2' hi, bt_joinRow, hrel] at hb
      obtain ⟨a, a1, a2, a3⟩ := hb
      rw [pr_cell okA okB h a1 hi hj, Bool.and_eq_true] at a3
      rw [group_row okA h1 h2 (dlt i hi), bt_joinRow]
      exact ⟨a, a1, a2, a3.1⟩
    · intro i u j hi hu hj e1 e2 hb
      rw [group_row okA h1 h2 (dlt i hi), bt_joinRow] at hb
      obtain ⟨a, a1, a2, a3⟩ := hb
      rw [group_row okM h1 h2' hi, bt_joinRow, hrel]
      exact ⟨a, a1, a2, by rw [pr_cell okA okB h a1 hi hj, e1, e2, a3, he a a1 _ (mlt i)]; rfl⟩
  · intro G h1 h2
    have h2' : (G : Int) < p2 (prM A B).rel.length := by rw [hrel]; exact h2
    have hA64 := okA.most
    refine mk (meet_in okA h1 h2) (meet_in okM h1 h2') ?_ ?_
    · intro i j hi hj hb
      rw [meet_row okM h1 h2' hi, bt_meetRow _ _ _ _ hj (by omega), hrel, allQ_iff] at hb
      rw [meet_row okA h1 h2 (dlt i hi), bt_meetRow _ _ _ _ (dlt j hj) (by have := dlt j hj; omega), allQ_iff]
      intro a ha
      have := hb a ha
      rw [pr_cell okA okB h ha hi hj] at this
      cases hg : G.testBit a
      · rfl
      · rw [hg] at this; simp at this; simp [this.1]
    · intro i u j hi hu hj e1 e2 hb
      rw [meet_row okA h1 h2 (dlt i hi), bt_meetRow _ _ _ _ hu (by omega), allQ_iff] at hb
      rw [meet_row okM h1 h2' hi, bt_meetRow _ _ _ _ hj (by omega), hrel, allQ_iff]
      intro a ha
      have := hb a ha
      rw [pr_cell okA okB h ha hi hj, e1, e2, he a ha _ (mlt i)]
      simpa using this
/-- A formula about the first one of two models holds at a pair exactly if it holds at its first part. -/
theorem sides_law (he : ∀ q, q < A.rel.length → eqvB (nth B.rel q) = true) {f : List Nd} (hf : reqErr A f = 0) : reqErr (prM A B) f = 0 ∧ ∀ i, i < N * m → bt (holdsOf (prM A B) f) i = bt (holdsOf A f) (i / m) := by
  obtain ⟨s1, s2, s3⟩ := pr_size okA okB h
  have hb := pr_bmod okA okB h fun q hq v hv => (eqvB_iff.1 (he q hq) v (by rw [(row_in okB (by omega)).1]; exact hv)).1
  have hc := (reqErr_ok hf).2.1
  have If := IsF.of hc
  obtain ⟨a1, a2⟩ := set_sem okA.check If
  obtain ⟨b1, b2⟩ := set_sem (pr_ok okA okB h).check If
  rw [hf] at a1
  obtain ⟨c1, c2⟩ := sem_bmo hb (rt f) If.fk (by rw [← a1]; rfl)
  rw [c1] at b1
  refine ⟨by simpa using b1, fun i hi => ?_⟩
  rw [b2, a2, c2 i (by rw [fstL_len]; exact hi), fstL_nth hi]
end
end Wt

/- Plain: secret votes and dining cryptographers: what package secrets computes. -/
namespace Wt
open Go Go.RowKit Go.Proofs Fm

/-- All valuations of n facts. -/
def fullB (n : Nat) : BitVec 64 := if n = 6 then 18446744073709551615#64 else 1#64 <<< (2 ^ n) - 1#64
def ccFact (i : Int) : List Nd := fB ⟨3, i, 0, 0, 0, 0⟩ []
def ccNot (f : List Nd) : List Nd := fB ⟨4, 0, 0, 0, 0, 0⟩ [f]
def ccAnd (f g : List Nd) : List Nd := fB ⟨5, 0, 0, 0, 0, 0⟩ [f, g]
def ccOr (f g : List Nd) : List Nd := fB ⟨6, 0, 0, 0, 0, 0⟩ [f, g]
def ccImp (f g : List Nd) : List Nd := fB ⟨7, 0, 0, 0, 0, 0⟩ [f, g]
def ccIff (f g : List Nd) : List Nd := fB ⟨8, 0, 0, 0, 0, 0⟩ [f, g]
def ccDist (g : Int) (f : List Nd) : List Nd := fB ⟨12, 0, 0, g, 0, 0⟩ [f]
def ccTrue : List Nd := fB ⟨1, 0, 0, 0, 0, 0⟩ []
def ccFalse : List Nd := fB ⟨2, 0, 0, 0, 0, 0⟩ []
/-- The formula of a table, by cases of the last fact. -/
def decF : Nat → BitVec 64 → List Nd
  | 0, t => if t = 0#64 then ccFalse else ccTrue
  | n + 1, t =>
    if t = 0#64 then ccFalse else if t = fullB (n + 1) then ccTrue
    else
      let low := t &&& fullB n
      let high := t >>> (2 ^ n)
      if low = high then decF n low
      else
        let p := ccFact (n : Int)
        if low = 0#64 ∧ high = fullB n then p
        else if high = 0#64 ∧ low = fullB n then ccNot p
        else if low = 0#64 then ccAnd p (decF n high)
        else if high = 0#64 then ccAnd (ccNot p) (decF n low)
        else if low = fullB n then ccImp p (decF n high)
        else if high = fullB n then ccOr p (decF n low)
        else ccAnd (ccImp p (decF n high)) (ccOr p (decF n low))
/-- The formula of the valuations that a property selects. -/
def amongF (n : Nat) (p : Nat → Bool) : List Nd := decF n (setTo p (2 ^ n))
/-- The number of true facts. -/
def onesN (v : Nat) : Nat := (List.range 64).countP fun i => v.testBit i
def votesM (n : Nat) : Mo := obM (n : Int) ccTrue ((List.range n).map fun i : Nat => [ccFact (i : Int)])
/-- A model with an actual world. -/
def annW (p : Mo × Int) (f : List Nd) : Mo × Int :=
  let set := if bt (holdsOf p.1 f) p.2.toNat then holdsOf p.1 f else if p.1.worlds < 64 then ~~~ holdsOf p.1 f &&& (1#64 <<< p.1.worlds.toNat - 1#64) else ~~~ holdsOf p.1 f
  (resM p.1 set, posI (if resErr p.1 set = 0 then memL set else []) p.2)
def knowsW (p : Mo × Int) (g i : Int) : Bool := atOf p.1 p.2 (ccDist g (ccFact i)) || atOf p.1 p.2 (ccDist g (ccNot (ccFact i)))
def tallyF (n k : Nat) : List Nd := amongF n fun v => onesN v == k
def passF (n k : Nat) : List Nd := amongF n fun v => decide (k ≤ onesN v)
def countedW (n v : Nat) : Mo × Int := annW (votesM n, (v : Int)) (tallyF n (onesN v))
def decidedW (n v q : Nat) : Mo × Int := annW (votesM n, (v : Int)) (passF n q)
def dinLaw (n : Nat) : List Nd := amongF (2 * n) fun v => decide (onesN (v &&& (2 ^ n - 1)) ≤ 1)
def dinSeen (n : Nat) : List (List (List Nd)) := (List.range n).map fun i : Nat => [ccFact (i : Int), ccFact ((n + i : Nat) : Int), ccFact ((n + (i + n - 1) % n : Nat) : Int)]
def dinM (n : Nat) : Mo := obM ((2 * n : Nat) : Int) (dinLaw n) (dinSeen n)
def dinS (n : Nat) : List Nat := obS ((2 * n : Nat) : Int) (dinLaw n) (dinSeen n)
def sayF (n a : Nat) : List Nd := ccIff (ccIff (ccFact ((n + a : Nat) : Int)) (ccFact ((n + (a + n - 1) % n : Nat) : Int))) (ccFact (a : Int))
/-- After all have spoken; the payer p - 1, none if p = 0. -/
def spokeW (n p c : Nat) : Mo × Int := (List.range n).foldl (fun q i => annW q (sayF n i)) (dinM n, posI (dinS n) ((c * 2 ^ n + (if p = 0 then 0 else 2 ^ (p - 1)) : Nat) : Int))
/-! What a coalition knows, read off the rows. -/
theorem fok_factS {i : Nat} (h : i < 8) : fok (.leaf 3 (i : Int) 0 0) := ⟨rfl, rfl, by simp [needless, useOf], by simp [wide, useOf, outs]; omega⟩
theorem isF_fact {i : Nat} (h : i < 8) : IsF (ccFact (i : Int)) (.leaf 3 (i : Int) 0 0) := by
  have h1 : ∀ i : _root_.Fin 8, fCheck (ccFact ((i.val : Nat) : Int)) = 0 ∧ rt (ccFact ((i.val : Nat) : Int)) = .leaf 3 ((i.val : Nat) : Int) 0 0 := by decide +kernel
  exact ⟨(h1 ⟨i, h⟩).1, (h1 ⟨i, h⟩).2⟩
theorem isF_notFact {i : Nat} (h : i < 8) : IsF (ccNot (ccFact (i : Int))) (.un 4 0 0 0 (.leaf 3 (i : Int) 0 0)) := by
  have h1 : ∀ i : _root_.Fin 8, fCheck (ccNot (ccFact ((i.val : Nat) : Int))) = 0 ∧ rt (ccNot (ccFact ((i.val : Nat) : Int))) = .un 4 0 0 0 (.leaf 3 ((i.val : Nat) : Int) 0 0) := by decide +kernel
  exact ⟨(h1 ⟨i, h⟩).1, (h1 ⟨i, h⟩).2⟩
section
variable {M : Mo} {N : Nat} (ok : MoOk M N)
/-- A right formula at a world of a right model. -/
theorem at_sem {f : List Nd} {a : Fm} (hM : moCheck M = 0) (hw : M.worlds = N) (hf : IsF f a) (hs : (semT M a).2 = true) {x : Nat} (hx : x < N) : atErr M (x : Int) f = 0 ∧ atOf M (x : Int) f = bt (semT M a).1 x := by
  obtain ⟨h1, h2⟩ := set_sem hM hf
  rw [hs] at h1
  have h3 : reqErr M f = 0 := by simpa using h1
  have h4 : atErr M (x : Int) f = 0 := by
    unfold atErr inMo
    rw [if_neg (by simp [h3]), hw, if_pos (by simp; omega)]
  refine ⟨h4, ?_⟩
  unfold atOf
  rw [h4, h2]; simp
def distB (M : Mo) (N g : Nat) (s : BitVec 64) (x : Nat) : Bool := gRow (jOf true) (zOf true N) M.rel g x M.rel.length &&& ~~~ s == 0#64
def knowsB (M : Mo) (N x g i : Nat) : Bool := distB M N g (nth M.val i) x || distB M N g (allW N &&& ~~~ nth M.val i) x
include ok
theorem dist_at {f : List Nd} {a : Fm} (hM : moCheck M = 0) (hf : IsF f a) {s : BitVec 64} (hs : semT M a = (s, true)) (hz : fsize a ≤ 100) {g x : Nat} (h1 : 1 ≤ g) (h2 : (g : Int) < p2 M.rel.length) (hx : x < N) :
    atErr M (x : Int) (ccDist (g : Int) f) = 0 ∧ atOf M (x : Int) (ccDist (g : Int) f) = distB M N g s x := by
  have h15 : (1 : Int) ≤ (g : Int) ∧ (g : Int) ≤ 15 := by
    have : p2 M.rel.length ≤ 16 := by
      have := ok.rel
      rcases (show M.rel.length = 0 ∨ M.rel.length = 1 ∨ M.rel.length = 2 ∨ M.rel.length = 3 ∨ M.rel.length = 4 by omega) with h | h | h | h | h <;> rw [h] <;> decide
    omega
  have hd : IsF (ccDist (g : Int) f) (.un 12 0 0 (g : Int) a) := isF_un hf (fok_dist _ h15 hf.fk) (by have := fsize_un (a := a) 12 0 0 (g : Int); omega)
  have hng : ¬ (p2 M.rel.length ≤ (g : Int)) := by omega
  have e : semT M (.un 12 0 0 (g : Int) a) = (relBox (meetOf M g) s, true) := by
    rw [semT_un _ _ _ _ (by rw [hs]), hs]; simp [valN, hng]
  obtain ⟨h3, h4⟩ := at_sem hM ok.worlds hd (by rw [e]) hx
  refine ⟨h3, ?_⟩
  rw [h4, e]
  have hx64 : x < 64 := by have := ok.most; omega
  obtain ⟨hl, hrow⟩ := meet_in ok h1 h2
  show bt (relBox (meetOf M g) s) x = _
  rw [bt_relBox _ _ _ hx64, hl, rel_ok hl ok.most hrow, meet_row ok h1 h2 hx]
  simp [hx, distB]
theorem knowsW_eq (hM : moCheck M = 0) {x g i : Nat} (hx : x < N) (h1 : 1 ≤ g) (h2 : (g : Int) < p2 M.rel.length) (hi : i < M.val.length) : knowsW (M, (x : Int)) (g : Int) (i : Int) = knowsB M N x g i := by
  have hv := ok.val
  have hni : ¬ ((M.val.length : Int) ≤ (i : Int)) := by omega
  have e1 : semT M (.leaf 3 (i : Int) 0 0) = (nth M.val i, true) := by simp [semT, valN, hni]
  have hN : M.worlds.toNat = N := by rw [ok.worlds]; rfl
  have e2 : semT M (.un 4 0 0 0 (.leaf 3 (i : Int) 0 0)) = (allW N &&& ~~~ nth M.val i, true) := by
    rw [semT_un _ _ _ _ (by rw [e1]), e1]; simp [valN, hN]
  have z1 : fsize (.leaf 3 (i : Int) 0 0) ≤ 1 := by simp [fsize, addT, put]
  obtain ⟨-, a1⟩ := dist_at ok hM (isF_fact (i := i) (by omega)) e1 (by omega) h1 h2 hx
  obtain ⟨-, a2⟩ := dist_at ok hM (isF_notFact (i := i) (by omega)) e2 (by have := fsize_un (a := .leaf 3 (i : Int) 0 0) 4 0 0 0; omega) h1 h2 hx
  unfold knowsW knowsB
  rw [a1, a2]
end
end Wt

/- Walks: boolean.full, tableError, decide, FromTable. -/
namespace Wt
open Go Go.RowKit Go.Maps Go.Proofs Fm

theorem un_pow (n : Nat) (h : n < 63) : un (1#64 <<< n) = ((2 ^ n : Nat) : Int) := by
  have h2 : 2 ^ n < 2 ^ 64 := Nat.pow_lt_pow_right (by omega) (by omega)
  unfold un
  rw [BitVec.toNat_shiftLeft, Nat.shiftLeft_eq]
  simp only [BitVec.toNat_ofNat]
  rw [show (1 : Nat) % 2 ^ 64 = 1 from rfl, Nat.one_mul, Nat.mod_eq_of_lt h2]
theorem shift_shr_un (s : BitVec 64) (yk : IntKind) (n : Nat) (h : n < 63) : Op.shift .shr .u64 (un s) yk (un (1#64 <<< n)) = pure (.int .u64 (un (s >>> 2 ^ n))) := by
  rw [un_pow n h]; exact shift_shr_bv s yk (2 ^ n)
theorem shift_shl_un (yk : IntKind) (n : Nat) (h : n < 63) : Op.shift .shl .u64 1 yk (un (1#64 <<< n)) = pure (.int .u64 (un (1#64 <<< 2 ^ n))) := by
  rw [un_pow n h]; exact shift_shl_bv 1#64 yk (2 ^ n)
attribute [go_sem ↓] shift_shr_un shift_shl_un
theorem full_any (n : Nat) (h : n ≤ 6) (w : World) :
    Calls Tryd.prog 73 #[.int .i64 (n : Int)] w fun e w' => e = .returned (.int .u64 (un (fullB n))) ∧ w = w' := by
  by_cases h6 : n = 6
  · subst h6
    go_enter Tryd.func73, Tryd.ntmps73
    go_wp2
    go_ret
    exact ⟨rfl, rfl⟩
  · have h63 : n < 63 := by omega
    have hq : ((n : Int) == 6) = false := by simp; omega
    have HF : Hid (fullB n = 1#64 <<< 2 ^ n - 1#64) := Lib.hid (if_neg h6)
    clear h6
    go_enter Tryd.func73, Tryd.ntmps73
    go_wp2
    go_ret
    exact ⟨by rw [HF.out]; rfl, rfl⟩
theorem bt_fullB : ∀ n : _root_.Fin 7, ∀ k : _root_.Fin 64, bt (fullB n.val) k.val = decide (k.val < 2 ^ n.val) := by decide +kernel
theorem bt_full {n k : Nat} (hn : n ≤ 6) (hk : k < 64) : bt (fullB n) k = decide (k < 2 ^ n) := bt_fullB ⟨n, by omega⟩ ⟨k, hk⟩
theorem low_in (n : Nat) (t : BitVec 64) : (t &&& fullB n) &&& ~~~ fullB n = 0#64 := andNot_zero.2 fun k _ h => by
  rw [bt_and] at h; simp at h; exact h.2
theorem high_in {n : Nat} (hn : n + 1 ≤ 6) {t : BitVec 64} (h : t &&& ~~~ fullB (n + 1) = 0#64) : (t >>> 2 ^ n) &&& ~~~ fullB n = 0#64 := andNot_zero.2 fun k hk h2 => by
  have h3 : bt t (2 ^ n + k) = true := by
    unfold bt at h2 ⊢; rw [BitVec.getLsbD_ushiftRight] at h2; exact h2
  by_cases h4 : 2 ^ n + k < 64
  · have h5 := andNot_zero.1 h _ h4 h3
    rw [bt_full hn h4] at h5
    rw [bt_full (by omega) hk]
    have h6 := of_decide_eq_true h5
    rw [Nat.pow_succ] at h6
    exact decide_eq_true (by omega)
  · unfold bt at h3
    rw [BitVec.getLsbD_of_ge _ _ (by omega)] at h3; cases h3
/-- The cases of decide. -/
theorem decF_no (n : Nat) {t : BitVec 64} (h : t = 0#64) : decF n t = ccFalse := by cases n <;> simp [decF, h]
theorem decF_all (n : Nat) {t : BitVec 64} (h : t ≠ 0#64) (h2 : t = fullB n) : decF n t = ccTrue := by
  cases n with
  | zero => simp [decF, h]
  | succ n => unfold decF; rw [if_neg h, if_pos h2]
theorem tab_zero {t : BitVec 64} (h : t &&& ~~~ fullB 0 = 0#64) (h0 : t ≠ 0#64) : t = fullB 0 := by
  have e : fullB 0 = 1#64 <<< 0 := by decide
  rw [e] at h ⊢
  have hs := andNot_zero.1 h
  have hb : bt t 0 = true := by
    cases h1 : bt t 0
    · refine absurd (bt_ext fun k hk => ?_) h0
      rw [bt_zero]
      cases h2 : bt t k
      · rfl
      · have := hs k hk h2
        rw [bt_shl1] at this
        simp at this
        obtain rfl : k = 0 := this.2
        rw [h1] at h2; cases h2
    · rfl
  refine bt_ext fun k hk => ?_
  rw [bt_shl1]
  by_cases e : k = 0
  · subst e; rw [hb]; simp
  · cases h2 : bt t k
    · simp [e]
    · have := hs k hk h2
      rw [bt_shl1] at this; simp [e] at this
end Wt
