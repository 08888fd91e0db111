/- Plain: the puzzles' models: worlds whose facts are the bits of numbers, where each agent knows a key of the world. -/
import Derived.Test.YtoacdccachhjdaaGreatDoorMAAq
import Derived.Test.YtoacdccachhjdaaGreatDoorMAAl
import Derived.Test.YtoacdccachhjdaaGreatDoorMAAp
import Derived.Test.YtoacdccachhjdaaGreatDoorMAAo
import Derived.Test.YtoacdccachhjdaaGreatDoorMABc
namespace Wt
open Go Go.RowKit Go.Proofs Fm

/-- The model of worlds whose facts are the bits of numbers. -/
def bldV (ws : List Nat) (p : Nat) : BitVec 64 := setTo (fun w => (nth ws w).testBit p) ws.length
def bldR (n : Nat) (key : Nat → Int) (w : Nat) : BitVec 64 := setTo (fun v => key w == key v) n
def bldRow (n : Nat) (key : Nat → Int) : List (BitVec 64) := (List.range n).map fun w => bldR n key w
def bldM (facts : Nat) (ws : List Nat) (agents : Nat) (key : Nat → Nat → Int) : Mo :=
  ⟨(ws.length : Int), (List.range facts).map fun p => bldV ws p, (List.range agents).map fun a => bldRow ws.length (key a)⟩
theorem bldM_ok {facts : Nat} {ws : List Nat} {agents : Nat} (key : Nat → Nat → Int) (h1 : 1 ≤ ws.length) (h64 : ws.length ≤ 64) (hf : facts ≤ 8) (ha : agents ≤ 4) : MoOk (bldM facts ws agents key) ws.length where
  worlds := rfl
  one := h1
  most := h64
  rel := by simpa [bldM] using ha
  val := by simpa [bldM] using hf
  row := fun r hr => by
    simp only [bldM, List.mem_map] at hr
    obtain ⟨i, _, rfl⟩ := hr
    simp [bldRow]
  valIn := fun s hs => by
    simp only [bldM, List.mem_map] at hs
    obtain ⟨i, _, rfl⟩ := hs
    exact andNot_zero.2 (setTo_le _ _)
  relIn := fun r hr s hs => by
    simp only [bldM, List.mem_map] at hr
    obtain ⟨i, _, rfl⟩ := hr
    simp only [bldRow, List.mem_map] at hs
    obtain ⟨k, _, rfl⟩ := hs
    exact andNot_zero.2 (setTo_le _ _)
/-- The sets of the facts when the worlds below w are done, and of world w the facts below p. -/
def bldW (ws : List Nat) (facts w p : Nat) : List (BitVec 64) := (List.range facts).map fun q => setTo (fun v => (nth ws v).testBit q) (if q < p then w + 1 else w)
theorem bldW_len (ws : List Nat) (facts w p : Nat) : (bldW ws facts w p).length = facts := by simp [bldW]
theorem bldW_nth (ws : List Nat) {facts w p q : Nat} (h : q < facts) : nth (bldW ws facts w p) q = setTo (fun v => (nth ws v).testBit q) (if q < p then w + 1 else w) := nth_mapX _ h
theorem bldW_zero (ws : List Nat) (facts : Nat) : bldW ws facts 0 0 = List.replicate facts 0#64 := by
  refine nth_ext (by simp [bldW]) fun v hv => ?_
  rw [bldW_len] at hv
  rw [bldW_nth _ hv, if_neg (Nat.not_lt_zero _), nth_eq (List.replicate facts 0#64) _ (by simpa using hv)]
  simp [setTo]
theorem bldW_next (ws : List Nat) (facts w : Nat) : bldW ws facts w facts = bldW ws facts (w + 1) 0 := by
  refine nth_ext (by rw [bldW_len, bldW_len]) fun v hv => ?_
  rw [bldW_len] at hv
  rw [bldW_nth _ hv, bldW_nth _ hv, if_pos hv, if_neg (Nat.not_lt_zero _)]
theorem bldW_end (ws : List Nat) (facts : Nat) : bldW ws facts ws.length 0 = (List.range facts).map fun p => bldV ws p := by
  refine nth_ext (by simp [bldW]) fun v hv => ?_
  rw [bldW_len] at hv
  rw [bldW_nth _ hv, if_neg (Nat.not_lt_zero _), nth_mapX _ hv]
  rfl
theorem bldW_step (ws : List Nat) (facts w : Nat) {p : Nat} (_hp : p < facts) : (bldW ws facts w p).set p (nth (bldW ws facts w p) p ||| (if (nth ws w).testBit p then 1#64 <<< w else 0#64)) = bldW ws facts w (p + 1) := by
  refine nth_ext (by rw [List.length_set, bldW_len, bldW_len]) fun v hv => ?_
  rw [List.length_set, bldW_len] at hv
  rw [nth_eq _ _ (by rw [List.length_set, bldW_len]; exact hv), List.getElem_set]
  by_cases e : p = v
  · subst e
    rw [if_pos rfl, bldW_nth _ hv, bldW_nth _ hv, if_neg (Nat.lt_irrefl p), show (if p < p + 1 then w + 1 else w) = w + 1 from if_pos (Nat.lt_succ_self p)]
    show _ = if (nth ws w).testBit p = true then setTo (fun v => (nth ws v).testBit p) w ||| 1#64 <<< w else setTo (fun v => (nth ws v).testBit p) w
    by_cases h : (nth ws w).testBit p = true
    · rw [if_pos h, if_pos h]
    · rw [if_neg h, if_neg h]; simp
  · rw [if_neg e, ← nth_eq _ _ (by rw [bldW_len]; exact hv), bldW_nth _ hv, bldW_nth _ hv]
    by_cases h1 : v < p
    · rw [if_pos h1, if_pos (by omega)]
    · rw [if_neg h1, if_neg (by omega)]
/-- A row of the relation when v worlds are done in world w's set, and the sets of the worlds below. -/
def bldK (n : Nat) (key : Nat → Int) (w v : Nat) : List (BitVec 64) := (List.range n).map fun u => if u < w then bldR n key u else if u = w then setTo (fun v => key w == key v) v else 0#64
theorem bldK_len (n : Nat) (key : Nat → Int) (w v : Nat) : (bldK n key w v).length = n := by simp [bldK]
theorem bldK_nth (n : Nat) (key : Nat → Int) (w v : Nat) {u : Nat} (h : u < n) : nth (bldK n key w v) u = if u < w then bldR n key u else if u = w then setTo (fun v => key w == key v) v else 0#64 := nth_mapX _ h
theorem bldK_zero (n : Nat) (key : Nat → Int) : bldK n key 0 0 = List.replicate n 0#64 := by
  refine nth_ext (by simp [bldK]) fun v hv => ?_
  rw [bldK_len] at hv
  rw [bldK_nth _ _ _ _ hv, if_neg (Nat.not_lt_zero _), nth_eq (List.replicate n 0#64) _ (by simpa using hv)]
  by_cases h : v = 0
  · rw [if_pos h]; simp [setTo]
  · rw [if_neg h]; simp
theorem bldK_next (n : Nat) (key : Nat → Int) (w : Nat) : bldK n key w n = bldK n key (w + 1) 0 := by
  refine nth_ext (by rw [bldK_len, bldK_len]) fun v hv => ?_
  rw [bldK_len] at hv
  rw [bldK_nth _ _ _ _ hv, bldK_nth _ _ _ _ hv]
  by_cases h1 : v < w
  · rw [if_pos h1, if_pos (by omega)]
  · rw [if_neg h1]
    by_cases h2 : v = w
    · subst h2
      rw [if_pos rfl, if_pos (by omega)]; rfl
    · rw [if_neg h2, if_neg (by omega)]
      by_cases h3 : v = w + 1
      · rw [if_pos h3]; rfl
      · rw [if_neg h3]
theorem bldK_end (n : Nat) (key : Nat → Int) : bldK n key n 0 = bldRow n key := by
  refine nth_ext (by simp [bldK, bldRow]) fun v hv => ?_
  rw [bldK_len] at hv
  rw [bldK_nth _ _ _ _ hv, if_pos hv]
  unfold bldRow
  rw [nth_mapX _ hv]
theorem bldK_at (n : Nat) (key : Nat → Int) {w : Nat} (h : w < n) (v : Nat) : nth (bldK n key w v) w = setTo (fun v => key w == key v) v := by
  rw [bldK_nth _ _ _ _ h, if_neg (Nat.lt_irrefl _), if_pos rfl]
theorem bldK_no (n : Nat) (key : Nat → Int) {w v : Nat} (h : (key w == key v) = false) : bldK n key w (v + 1) = bldK n key w v := by
  refine nth_ext (by rw [bldK_len, bldK_len]) fun u hu => ?_
  rw [bldK_len] at hu
  rw [bldK_nth _ _ _ _ hu, bldK_nth _ _ _ _ hu]
  have : setTo (fun v => key w == key v) (v + 1) = setTo (fun v => key w == key v) v := by
    show (if (key w == key v) = true then _ else _) = _
    rw [if_neg (by simp [h])]
  rw [this]
theorem bldK_yes (n : Nat) (key : Nat → Int) {w v : Nat} (_hw : w < n) (h : (key w == key v) = true) : (bldK n key w v).set w (setTo (fun v => key w == key v) v ||| 1#64 <<< v) = bldK n key w (v + 1) := by
  refine nth_ext (by rw [List.length_set, bldK_len, bldK_len]) fun u hu => ?_
  rw [List.length_set, bldK_len] at hu
  rw [nth_eq _ _ (by rw [List.length_set, bldK_len]; exact hu), List.getElem_set]
  by_cases e : w = u
  · subst e
    rw [if_pos rfl, bldK_at _ _ hu]
    show _ = (if (key w == key v) = true then _ else _)
    rw [if_pos h]
  · rw [if_neg e, ← nth_eq _ _ (by rw [bldK_len]; exact hu), bldK_nth _ _ _ _ hu, bldK_nth _ _ _ _ hu]
    by_cases h1 : u < w
    · rw [if_pos h1, if_pos h1]
    · rw [if_neg h1, if_neg h1, if_neg (Ne.symm e), if_neg (Ne.symm e)]

/-! Dialogues. -/
/-- The turns of a dialogue, or its error. -/
def playR (A : Mo) (x : Nat) : List (List Nd) → List (Bool × Nat) × Int
  | [] => ([], 0)
  | f :: l =>
    if atErr A x f ≠ 0 then ([], atErr A x f)
    else if atOf A x f = false then ([(false, A.worlds.toNat)], 0)
    else
      let r := playR (upM A f) (posI (upL A f) x).toNat l
      if r.2 ≠ 0 then ([], r.2) else ((true, (upM A f).worlds.toNat) :: r.1, 0)
def playErr (M : Mo) (x : Int) (l : List (List Nd)) : Int := if moCheck M ≠ 0 then moCheck M else if x < 0 ∨ M.worlds ≤ x then 2 else if 100 < l.length then 8 else (playR M x.toNat l).2
def playOf (M : Mo) (x : Int) (l : List (List Nd)) : List (Bool × Nat) := if playErr M x l = 0 then (playR M x.toNat l).1 else []
end Wt

/- A model as its relations are appended (printed by gen_zb.py out of XFrC). -/
namespace Wt
open Go Go.RowKit Go.Maps Go.Proofs Fm

/-- A model in a box at block n, its sets in older memory, its rows so far. -/
structure ARq (W0 : World) (n len : Nat) (vv : Value) (svs : List Value) (rows : List (List (BitVec 64))) (vr : Value) (wr : World) : Prop where
  e : Below n W0 wr
  lo : n < W0.heap.size
  out : OutAt wr n (.int .i64 (len : Int)) vv vr
  orr : wr.ownsRow (n + 1) 25 1 vr svs.length svs
  rl : svs.length = rows.length
  rw : ∀ j, j < rows.length → OU wr (n + 1) (nth svs j) (nth rows j)
  dj : ∀ i j, i < j → j < svs.length → Apart (nth svs j) (nth svs i)
section
variable {W0 wr W1 : World} {n len : Nat} {svs : List Value} {rows : List (List (BitVec 64))} {vv vr v' : Value}
theorem ARq.start {wr : World} {x vv : Value} {len : Nat} (h : x = .int .i64 (len : Int)) : ARq (wr.alloc (.cells #[x, vv, .slice none 0 0] 28)) wr.heap.size len vv [] [] (.slice none 0 0) (wr.alloc (.cells #[x, vv, .slice none 0 0] 28)) :=
  ⟨Below.refl _ _, by simp, by rw [h]; exact OutAt.new wr _ _ _ _, World.ownsRow_nil _ _ _ _, rfl, fun j hj => absurd hj (by simp), fun i j _ hj => absurd hj (by simp)⟩
theorem ARq.ext' {w' : World} (h : ARq W0 n len vv svs rows vr wr) (e : Ext wr w') : ARq W0 n len vv svs rows vr w' := by
  have hk : ∀ {B T sz m : Nat} {v : Value} {xs : List Value}, wr.ownsRow B T sz v m xs → w'.ownsRow B T sz v m xs := fun {_ _ _ _ v _} ho => ho.kept (row := none) ⟨e.os, e.tape, e.output, e.size, fun k hk _ => e.block k hk⟩ (by cases v.ownBlock <;> simp)
  exact ⟨Below.trans h.e (Below.mono e (by have := h.out.lt; omega)), h.lo, h.out.keep (e.block _ h.out.lt), hk h.orr, h.rl, fun j hj => hk (h.rw j hj), h.dj⟩
/-- One more row. -/
theorem ARq.push (h : ARq W0 n len vv svs rows vr wr) {sv : Value} {r : List (BitVec 64)} (hs : OU wr (n + 1) sv r) (hd : ∀ j, j < svs.length → Apart sv (nth svs j)) (ho : W1.ownsRow (n + 1) 25 1 v' (svs.length + 1) (svs ++ [sv])) (g : wr.grownBy W1 vr.ownBlock) :
    ARq W0 n len vv (svs ++ [sv]) (rows ++ [r]) v' (W1.setCell ⟨n, 2, none⟩ v') := by
  have hr : ∀ k, vr.ownBlock = some k → n + 1 ≤ k := fun k hk => (h.orr.lt k hk).1
  have hb : W1.heap[n]? = wr.heap[n]? := g.block _ h.out.lt (fun e => by have := hr _ e.symm; omega)
  have hk : ∀ {m : Nat} {v : Value} {xs : List Value}, wr.ownsRow (n + 1) 63 1 v m xs → (W1.setCell ⟨n, 2, none⟩ v').ownsRow (n + 1) 63 1 v m xs := fun ho => setOther (ho.kept g (own_ne ho h.orr (by decide))) (by omega)
  refine ⟨(Below.grown h.e g (by have := h.out.lt; omega) (fun k hk => by have := hr k hk; omega)).setCell (by simp) _, h.lo, (h.out.keep hb).set2 v', ?_, by simp [h.rl], fun j hj => ?_, fun i j hij hj => ?_⟩
  · refine setOther ?_ (by omega)
    rw [List.length_append]; exact ho
  · by_cases hj2 : j < rows.length
    · rw [nth_appL _ _ (by rw [h.rl]; exact hj2), nth_appL _ _ hj2]; exact hk (h.rw j hj2)
    · have e : j = rows.length := by simp at hj; omega
      subst e
      have e1 := nth_appR svs [sv] (k := 0) (by simp)
      have e2 := nth_appR rows [r] (k := 0) (by simp)
      rw [Nat.add_zero, h.rl] at e1
      rw [Nat.add_zero] at e2
      rw [e1, e2]; exact hk hs
  · have hj : j < svs.length + 1 := by simpa using hj
    rw [nth_appL svs [sv] (k := i) (by omega)]
    by_cases hj2 : j < svs.length
    · rw [nth_appL _ _ hj2]; exact h.dj i j hij hj2
    · obtain rfl : j = svs.length := by omega
      have e1 := nth_appR svs [sv] (k := 0) (by simp)
      rw [Nat.add_zero] at e1
      rw [e1]; exact hd i hij
theorem ARq.apart {wz : World} {sv : Value} {r : List (BitVec 64)} (h : ARq W0 n len vv svs rows vr wr) (hs : OU wz wr.heap.size sv r) : ∀ j, j < svs.length → Apart sv (nth svs j) :=
  fun j hj => Apart.later hs fun b hb => ((h.rw j (by rw [← h.rl]; exact hj)).lt b hb).2
theorem ARq.outR (h : ARq W0 n len vv svs rows vr wr) (g : wr.grownBy W1 vr.ownBlock) : OutAt W1 n (.int .i64 (len : Int)) vv vr :=
  h.out.keep (g.block _ h.out.lt (fun e => by have := (h.orr.lt _ e.symm).1; omega))
end
/-- The rows so far. -/
def ARqE (W0 : World) (n len : Nat) (vv : Value) (Rows : List (List (BitVec 64))) (k : Nat) (wr : World) : Prop := ∃ svs vr, ARq W0 n len vv svs (Rows.take k) vr wr
end Wt

/- Walk: puzzles.build. -/
namespace Wt
open Go Go.RowKit Go.Maps Go.Proofs Fm

theorem and_divZ (v k : Nat) : bits .and .i64 ((v : Int) / 2 ^ k) 1 = b01 v k := by
  rw [← sr_and1]; unfold sr; rw [Nat.shiftRight_eq_div_pow]; simp
theorem or_powZ (x : BitVec 64) {k : Nat} (h : k < 64) : bits .or .u64 (un x) (IntKind.u64.wrap (2 ^ k)) = un (x ||| 1#64 <<< k) := by
  have e := bv_shl_eq (s := 1#64) k
  rw [un_one, Nat.min_eq_left (by omega), Int.one_mul] at e
  rw [e, bv_or]
theorem wrap_onceZ (k : IntKind) : k.wrap 0 = 0 := by cases k <;> rfl
theorem fact_rawZ (Y : BitVec 64) (v p : Nat) {x : Nat} (hx : x < 64) : bits .or .u64 (un Y) (IntKind.u64.wrap (IntKind.u64.wrap (bits .and .i64 ((v : Int) / 2 ^ p) 1) * 2 ^ x)) = un (Y ||| if v.testBit p then 1#64 <<< x else 0#64) := by
  rw [and_divZ]
  unfold b01
  cases v.testBit p
  · have h := bv_or Y 0#64
    rw [un_zero] at h
    simpa [wrap_onceZ] using h
  · have h := or_powZ Y hx
    have h1 : IntKind.u64.wrap 1 = 1 := rfl
    simpa [h1] using h
/-- The sets of the facts under way, above an older world. -/
def BvA (W0 : World) (ws : List Nat) (n w p : Nat) (W : World) : Prop := Ext W0 W ∧ OG W W0.heap.size 63 uv W0.heap.size n n (bldW ws n w p)
/-- A row of the relation under way. -/
def BkA (W0 : World) (n : Nat) (key : Nat → Int) (w v : Nat) (W : World) : Prop := Ext W0 W ∧ OG W W0.heap.size 63 uv W0.heap.size n n (bldK n key w v)
set_option maxRecDepth 20000 in
set_option maxHeartbeats 16000000 in
theorem build32_any (F : Nat) (caps : List Value) (key : Nat → Nat → Int) (facts agents : Nat) (ws : List Nat) (wa : Option Addr) (wc : Nat) (w : World) (hw : RI w wa (natI ws)) (h64 : ws.length ≤ 64) (hf : facts ≤ 8) (ha : agents ≤ 4)
    (hF : ∀ args W, (callFunc F args).run Tryz.prog W = .ok (.enter F args) W)
    (hk : ∀ W a v, Ext w W → a < agents → v < ws.length → Calls Tryz.prog F (.int .i64 (a : Int) :: .int .i64 (v : Int) :: caps).toArray W fun e w' => e = .returned (.int .i64 (key a v)) ∧ Ext W w') :
    Calls Tryz.prog 53 #[.int .i64 (facts : Int), .slice wa ws.length wc, .int .i64 (agents : Int), .func (.func F) #[] caps.toArray] w fun e w' => RetMA (bldM facts ws agents key) e w w' := by
  have HW := Lib.hid hw
  have HK := Lib.hid hk
  have hE0 : Ext w (w.alloc (.cells #[.int .i64 0, .slice none 0 0, .slice none 0 0] 28)) := (Ext.refl w).alloc _
  have mk1 := fun (w : World) => run_make_row' (P := Tryz.prog) 25 63 (.int .u64 0) 8 Tryz.underlying25 u64_info rfl .i64 .i64 facts (by omega) (by omega) w
  clear hw hk
  go_enter Tryz.func53, Tryz.ntmps53
  go_wp2_with fail
  clear mk1
  have hs1 : (w.alloc (.cells #[.int .i64 0, .slice none 0 0, .slice none 0 0] 28)).heap.size = w.heap.size + 1 := by simp
  have hB0 : BvA (w.alloc (.cells #[.int .i64 0, .slice none 0 0, .slice none 0 0] 28)) ws facts 0 0 ((w.alloc (.cells #[.int .i64 0, .slice none 0 0, .slice none 0 0] 28)).alloc (.cells (madeCells #[.int .u64 0] facts) 63)) := ⟨(Ext.refl _).alloc _, by rw [bldW_zero]; exact OG.made (enc := uv) _ facts 0#64 (Nat.le_refl _) (by omega)⟩
  have hB1 : BvA (w.alloc (.cells #[.int .i64 0, .slice none 0 0, .slice none 0 0] 28)) ws facts 0 0 (((w.alloc (.cells #[.int .i64 0, .slice none 0 0, .slice none 0 0] 28)).alloc (.cells (madeCells #[.int .u64 0] facts) 63)).alloc (.cells #[.int .i64 (ws.length : Int), .slice (some ⟨w.heap.size + 1, 0, none⟩) facts facts, .slice none 0 0] 28)) := ⟨hB0.1.alloc _, hB0.2.ext ((Ext.refl _).alloc _)⟩
  have hO : OutAt (((w.alloc (.cells #[.int .i64 0, .slice none 0 0, .slice none 0 0] 28)).alloc (.cells (madeCells #[.int .u64 0] facts) 63)).alloc (.cells #[.int .i64 (ws.length : Int), .slice (some ⟨w.heap.size + 1, 0, none⟩) facts facts, .slice none 0 0] 28)) (w.heap.size + 2) (.int .i64 (ws.length : Int)) (.slice (some ⟨w.heap.size + 1, 0, none⟩) facts facts) (.slice none 0 0) := OutAt.new3 w (.cells #[.int .i64 0, .slice none 0 0, .slice none 0 0] 28) (.cells (madeCells #[.int .u64 0] facts) 63) (.int .i64 (ws.length : Int)) (.slice (some ⟨w.heap.size + 1, 0, none⟩) facts facts) (.slice none 0 0) 28
  have HORE := Lib.hid (OutAt.new w (.int .i64 0) (.slice none 0 0) (.slice none 0 0) 28)
  have HE0 := Lib.hid hE0
  have HS1 := Lib.hid hs1
  have HB1 := Lib.hid hB1
  have HO := Lib.hid hO
  clear hB0 hB1 hO hs1 hE0
  generalize ((w.alloc (.cells #[.int .i64 0, .slice none 0 0, .slice none 0 0] 28)).alloc (.cells (madeCells #[.int .u64 0] facts) 63)).alloc (.cells #[.int .i64 (ws.length : Int), .slice (some ⟨w.heap.size + 1, 0, none⟩) facts facts, .slice none 0 0] 28) = W0 at *
  generalize w.alloc (.cells #[.int .i64 0, .slice none 0 0, .slice none 0 0] 28) = w1 at *
  go_loopw [24] (fun i wr => ∃ x : Nat, x ≤ ws.length ∧ i = .int .i64 (x : Int) ∧ Hid (BvA w1 ws facts x 0 wr) ∧ Hid (OutAt wr (w.heap.size + 2) (.int .i64 (ws.length : Int)) (.slice (some ⟨w.heap.size + 1, 0, none⟩) facts facts) (.slice none 0 0))) (fun i _ => ws.length - (RowKit.intOf i).toNat)
  case atStart => exact ⟨0, Nat.zero_le _, rfl, HB1, HO⟩
  case round =>
    clear HB1 HO
    obtain ⟨x, hx, rfl, HB, HO⟩ := hrel
    by_cases hxl : x < ws.length
    · obtain ⟨b1, o1, hla, hb1, hc1⟩ := (HW.out.ext (HE0.out.trans HB.out.1)).get (k := x) (by simpa [natI] using hxl)
      rw [nth_natI hxl] at hc1
      subst hla
      obtain ⟨v, hv⟩ : ∃ v, v = nth ws x := ⟨_, rfl⟩
      rw [← hv] at hc1
      have HV := Lib.hid hv
      clear hv
      go_wp2_with fail
      clear hb1 hc1
      go_loopw [30] (fun i wz => ∃ p : Nat, p ≤ facts ∧ i = .int .i64 (p : Int) ∧ Hid (BvA w1 ws facts x p wz) ∧ Hid (OutAt wz (w.heap.size + 2) (.int .i64 (ws.length : Int)) (.slice (some ⟨w.heap.size + 1, 0, none⟩) facts facts) (.slice none 0 0))) (fun i _ => facts - (RowKit.intOf i).toNat)
      case atStart => exact ⟨0, Nat.zero_le _, rfl, HB, HO⟩
      case round =>
        clear HB HO
        rename World => wz
        obtain ⟨p, hp, rfl, HB, HO⟩ := hrel
        by_cases hpl : p < facts
        · have kf := HB.out.2.frozen p
          have kl := HB.out.2.lt
          have kc := HB.out.2.cell hpl
          have hst := bldW_step ws facts x hpl
          rw [← HV.out] at hst
          have HST := Lib.hid hst
          clear hst
          have hPUT := fun s => (HB.out.2.ext (Ext.refl wz).drew).set p s
          rw [HS1.out] at kf kl kc hPUT
          have HPUT := Lib.hid hPUT
          clear hPUT
          generalize nth (bldW ws facts x p) p = Y at *
          change wz.cell? ⟨w.heap.size + 1, p, none⟩ = some (.int .u64 (un Y)) at kc
          have HSS : Hid (∀ W, Ext wz W → (fun w' : World => w'.cell? ⟨w.heap.size + 2, 1, none⟩ = some (.slice (some ⟨w.heap.size + 1, 0, none⟩) facts facts) ∧ w'.cell? ⟨w.heap.size + 1, p, none⟩ = some (.int .u64 (un Y))) W) := Lib.hid fun W e => ⟨(HO.out.ext e).c1, e.cell kc⟩
          have hi1 : (0 : Int) ≤ (p : Int) := by omega
          have hi2 : (p : Int) < (facts : Int) := by omega
          have hp64 : p < 64 := by omega
          have hx64 : x < 64 := by omega
          go_wp2_with fail
          refine wp_region_E 14 (fun w' => w'.cell? ⟨w.heap.size + 2, 1, none⟩ = some (.slice (some ⟨w.heap.size + 1, 0, none⟩) facts facts) ∧ w'.cell? ⟨w.heap.size + 1, p, none⟩ = some (.int .u64 (un Y))) (by kernel_rfl) ?_
          refine wpAnyE_take (i := 0) (v := ?_) (.here) (by kernel_rfl) (fun _ _ _ h => h) (HSS.out _ (Ext.refl _).drew) (by rfl) ?_ ?_
          rotate_left
          focus (intro w hSw; (try dsimp only at hSw); go_simp; try with_reducible rfl)
          try simp only [Act.put, List.setIfInBounds_toArray, List.set_cons_zero, List.set_cons_succ]
          refine wpAnyE_take (i := 1) (v := ?_) (.next (.here)) (by kernel_rfl) (fun _ _ _ h => h) (HSS.out _ (Ext.refl _).drew) (by rfl) ?_ ?_
          rotate_left
          focus (intro w hSw; (try dsimp only at hSw); go_simp; try with_reducible rfl)
          try simp only [Act.put, List.setIfInBounds_toArray, List.set_cons_zero, List.set_cons_succ]
          refine wpAnyE_take (i := 2) (v := ?_) (.next (.next (.here))) (by kernel_rfl) (fun _ _ _ h => h) (HSS.out _ (Ext.refl _).drew) (by rfl) ?_ ?_
          rotate_left
          focus (intro w hSw; (try dsimp only at hSw); go_simp; try with_reducible rfl)
          try simp only [Act.put, List.setIfInBounds_toArray, List.set_cons_zero, List.set_cons_succ]
          refine wpAnyE_take (i := 3) (v := ?_) (.next (.next (.next (.here)))) (by kernel_rfl) (fun _ _ _ h => h) (HSS.out _ (Ext.refl _).drew) (by rfl) ?_ ?_
          rotate_left
          focus (intro w hSw; (try dsimp only at hSw); go_simp; try with_reducible rfl)
          try simp only [Act.put, List.setIfInBounds_toArray, List.set_cons_zero, List.set_cons_succ]
          refine wpAnyE_take (i := 4) (v := ?_) (.next (.next (.next (.next (.here))))) (by kernel_rfl) (fun _ _ _ h => h) (HSS.out _ (Ext.refl _).drew) (by rfl) ?_ ?_
          rotate_left
          focus (intro w hSw; (try dsimp only at hSw); go_simp; try with_reducible rfl)
          try simp only [Act.put, List.setIfInBounds_toArray, List.set_cons_zero, List.set_cons_succ]
          refine wpAnyE_take (i := 5) (v := ?_) (.next (.next (.next (.next (.next (.here)))))) (by kernel_rfl) (fun _ _ _ h => h) (HSS.out _ (Ext.refl _).drew) (by rfl) ?_ ?_
          rotate_left
          focus (intro w hSw; (try dsimp only at hSw); go_simp; try with_reducible rfl)
          try simp only [Act.put, List.setIfInBounds_toArray, List.set_cons_zero, List.set_cons_succ]
          refine wpAnyE_take (i := 6) (v := ?_) (.next (.next (.next (.next (.next (.next (.here))))))) (by kernel_rfl) (fun _ _ _ h => h) (HSS.out _ (Ext.refl _).drew) (by rfl) ?_ ?_
          rotate_left
          focus (intro w hSw; (try dsimp only at hSw); go_simp; try with_reducible rfl)
          try simp only [Act.put, List.setIfInBounds_toArray, List.set_cons_zero, List.set_cons_succ]
          refine wpAnyE_take (i := 7) (v := ?_) (.next (.next (.next (.next (.next (.next (.next (.here)))))))) (by kernel_rfl) (fun _ _ _ h => h) (HSS.out _ (Ext.refl _).drew) (by rfl) ?_ ?_
          rotate_left
          focus (intro w hSw; (try dsimp only at hSw); go_simp; try with_reducible rfl)
          try simp only [Act.put, List.setIfInBounds_toArray, List.set_cons_zero, List.set_cons_succ]
          refine wpAnyE_take (i := 8) (v := ?_) (.next (.next (.next (.next (.next (.next (.next (.next (.here))))))))) (by kernel_rfl) (fun _ _ _ h => h) (HSS.out _ (Ext.refl _).drew) (by rfl) ?_ ?_
          rotate_left
          focus (intro w hSw; (try dsimp only at hSw); go_simp; try with_reducible rfl)
          try simp only [Act.put, List.setIfInBounds_toArray, List.set_cons_zero, List.set_cons_succ]
          refine wpAnyE_take (i := 9) (v := ?_) (.next (.next (.next (.next (.next (.next (.next (.next (.next (.here)))))))))) (by kernel_rfl) (fun _ _ _ h => h) (HSS.out _ (Ext.refl _).drew) (by rfl) ?_ ?_
          rotate_left
          focus (intro w hSw; (try dsimp only at hSw); go_simp; try with_reducible rfl)
          try simp only [Act.put, List.setIfInBounds_toArray, List.set_cons_zero, List.set_cons_succ]
          refine wpAnyE_take (i := 10) (v := ?_) (.next (.next (.next (.next (.next (.next (.next (.next (.next (.next (.here))))))))))) (by kernel_rfl) (fun _ _ _ h => h) (HSS.out _ (Ext.refl _).drew) (by rfl) ?_ ?_
          rotate_left
          focus (intro w hSw; (try dsimp only at hSw); go_simp; try with_reducible rfl)
          try simp only [Act.put, List.setIfInBounds_toArray, List.set_cons_zero, List.set_cons_succ]
          refine wpAnyE_take (i := 11) (v := ?_) (.next (.next (.next (.next (.next (.next (.next (.next (.next (.next (.next (.here)))))))))))) (by kernel_rfl) (fun _ _ _ h => h) (HSS.out _ (Ext.refl _).drew) (by rfl) ?_ ?_
          rotate_left
          focus (intro w hSw; (try dsimp only at hSw); go_simp; try with_reducible rfl)
          try simp only [Act.put, List.setIfInBounds_toArray, List.set_cons_zero, List.set_cons_succ]
          refine wpAnyE_take (i := 12) (v := ?_) (.next (.next (.next (.next (.next (.next (.next (.next (.next (.next (.next (.next (.here))))))))))))) (by kernel_rfl) (fun _ _ _ h => h) (HSS.out _ (Ext.refl _).drew) (by rfl) ?_ ?_
          rotate_left
          focus (intro w hSw; (try dsimp only at hSw); go_simp; try with_reducible rfl)
          try simp only [Act.put, List.setIfInBounds_toArray, List.set_cons_zero, List.set_cons_succ]
          refine wpAnyE_take (i := 13) (v := ?_) (.next (.next (.next (.next (.next (.next (.next (.next (.next (.next (.next (.next (.next (.here)))))))))))))) (by kernel_rfl) (fun _ _ _ h => h) (HSS.out _ (Ext.refl _).drew) (by rfl) ?_ ?_
          rotate_left
          focus (intro w hSw; (try dsimp only at hSw); go_simp; try with_reducible rfl)
          try simp only [Act.put, List.setIfInBounds_toArray, List.set_cons_zero, List.set_cons_succ]
          rw [fact_rawZ Y v p hx64]
          refine wpAnyE_seq [14] (.cons (.next (.next (.next (.next (.next (.next (.next (.next (.next (.next (.next (.next (.next (.next (.here))))))))))))))) (.nil)) (by kernel_rfl) (by kernel_rfl) ?_
          have hPT := HPUT.out (Y ||| if v.testBit p then 1#64 <<< x else 0#64)
          rw [HST.out] at hPT
          have HPT := Lib.hid hPT
          clear hPT
          generalize (Y ||| if v.testBit p then 1#64 <<< x else 0#64) = Z at *
          have kc' : wz.drew.cell? ⟨w.heap.size + 1, p, none⟩ = some (.int .u64 (un Y)) := kc
          have kf' : wz.drew.frozen? ⟨w.heap.size + 1, p, none⟩ = false := kf
          go_wp2_with fail
          go_roundw
          case rel => exact ⟨p + 1, hpl, by go_num, Lib.hid ⟨(HB.out.1.drew).setCell (by rw [HS1.out]; simp) _, by rw [HS1.out]; exact HPT.out⟩, Lib.hid ((HO.out.ext (Ext.refl wz).drew).keep (heap_setCell_other _ ⟨w.heap.size + 1, p, none⟩ _ _ (by simp)))⟩
          case measure => simp [RowKit.intOf]; omega
        · obtain rfl : p = facts := by omega
          go_wp2_with fail
          go_roundw
          case rel => exact ⟨x + 1, hxl, by go_num, Lib.hid ⟨HB.out.1, by rw [← bldW_next]; exact HB.out.2⟩, HO⟩
          case measure => simp [RowKit.intOf]; omega
    · obtain rfl : x = ws.length := by omega
      rename World => w3
      have HBe : Hid (OG w3 (w.heap.size + 1) 63 uv (w.heap.size + 1) facts facts ((List.range facts).map fun p => bldV ws p)) := Lib.hid (by
        have h := HB.out.2
        rw [bldW_end, HS1.out] at h
        exact h)
      have hw3 : Ext w w3 := HE0.out.trans HB.out.1
      have HX3 : Hid (∀ W, Below (w.heap.size + 2) w3 W → Ext w W) := Lib.hid fun W e => Below.trans hw3 (Below.mono e (by omega))
      have HR3 : Hid (∀ W, Below (w.heap.size + 2) w3 W → OutAt W w.heap.size (.int .i64 0) (.slice none 0 0) (.slice none 0 0)) := Lib.hid fun W e => HORE.out.ext (Below.trans HB.out.1 (Below.mono e (by rw [HS1.out]; omega)))
      have hlt3 : w.heap.size + 2 < w3.heap.size := HO.out.lt
      have HA0 : Hid (ARq w3 (w.heap.size + 2) ws.length (.slice (some ⟨w.heap.size + 1, 0, none⟩) facts facts) [] [] (.slice none 0 0) w3) := Lib.hid ⟨Below.refl _ _, hlt3, HO.out, World.ownsRow_nil _ _ _ _, rfl, fun j hj => absurd hj (by simp), fun i j _ hj => absurd hj (by simp)⟩
      obtain ⟨Rows, hRows⟩ : ∃ Rows : List (List (BitVec 64)), Rows = (List.range agents).map fun a => bldRow ws.length (key a) := ⟨_, rfl⟩
      have hRl : Rows.length = agents := by rw [hRows]; simp
      have HRow : Hid (∀ a, a < agents → nth Rows a = bldRow ws.length (key a)) := Lib.hid fun a ha => by rw [hRows]; exact nth_mapX _ ha
      have HRe := Lib.hid hRows
      obtain ⟨i2, hj1, hy0, hy1, hy2⟩ := info_parts sl_info
      clear hRows hx hxl hw3 HB HO
      go_wp2_with fail
      go_loopw [50] (fun i wz => ∃ a : Nat, a ≤ agents ∧ i = .int .i64 (a : Int) ∧ Hid (ARqE w3 (w.heap.size + 2) ws.length (.slice (some ⟨w.heap.size + 1, 0, none⟩) facts facts) Rows a wz)) (fun i _ => agents - (RowKit.intOf i).toNat)
      case atStart => exact ⟨0, Nat.zero_le _, rfl, Lib.hid ⟨_, _, HA0.out⟩⟩
      case round =>
        clear HA0
        rename World => wa
        obtain ⟨a, haa, rfl, HAE⟩ := hrel
        obtain ⟨svs, vr, hAR⟩ := HAE.out
        have HAR := Lib.hid hAR
        clear HAE hAR
        have HXa := Lib.hid (HX3.out _ HAR.out.e)
        by_cases hal : a < agents
        · have mk1 := fun (w : World) => run_make_row' (P := Tryz.prog) 25 63 (.int .u64 0) 8 Tryz.underlying25 u64_info rfl .i64 .i64 ws.length (by omega) (by omega) w
          go_wp2_with fail
          clear mk1
          obtain ⟨ky, hky⟩ : ∃ ky : Nat → Int, ky = key a := ⟨_, rfl⟩
          have HKY : Hid (∀ W v, Ext w W → v < ws.length → Calls Tryz.prog F (.int .i64 (a : Int) :: .int .i64 (v : Int) :: caps).toArray W fun e w' => e = .returned (.int .i64 (ky v)) ∧ Ext W w') := Lib.hid fun W v e h => by rw [hky]; exact HK.out W a v e hal h
          have HROW : Hid (nth Rows a = bldRow ws.length ky) := Lib.hid (by rw [hky]; exact HRow.out a hal)
          have HC0 : Hid (BkA wa ws.length ky 0 0 (wa.alloc (.cells (madeCells #[.int .u64 0] ws.length) 63))) := Lib.hid ⟨(Ext.refl wa).alloc _, by rw [bldK_zero]; exact OG.made (enc := uv) wa ws.length 0#64 (Nat.le_refl _) (by omega)⟩
          clear hky
          generalize wa.alloc (.cells (madeCells #[.int .u64 0] ws.length) 63) = wc at *
          go_loopw [58] (fun i wz => ∃ x : Nat, x ≤ ws.length ∧ i = .int .i64 (x : Int) ∧ Hid (BkA wa ws.length ky x 0 wz)) (fun i _ => ws.length - (RowKit.intOf i).toNat)
          case atStart => exact ⟨0, Nat.zero_le _, rfl, HC0⟩
          case round =>
            clear HC0
            rename World => wz
            obtain ⟨x, hx, rfl, HB⟩ := hrel
            by_cases hxl : x < ws.length
            · go_wp2_with fail
              go_loopw [63] (fun i wy => ∃ v : Nat, v ≤ ws.length ∧ i = .int .i64 (v : Int) ∧ Hid (BkA wa ws.length ky x v wy)) (fun i _ => ws.length - (RowKit.intOf i).toNat)
              case atStart => exact ⟨0, Nat.zero_le _, rfl, HB⟩
              case round =>
                clear HB
                rename World => wy
                obtain ⟨v, hv, rfl, HB⟩ := hrel
                by_cases hvl : v < ws.length
                · have HNO : Hid ((ky x == ky v) = false → bldK ws.length ky x (v + 1) = bldK ws.length ky x v) := Lib.hid fun h => bldK_no _ _ h
                  have HYES : Hid ((ky x == ky v) = true → (bldK ws.length ky x v).set x (nth (bldK ws.length ky x v) x ||| 1#64 <<< v) = bldK ws.length ky x (v + 1)) := Lib.hid fun h => by rw [bldK_at _ _ hxl]; exact bldK_yes _ _ hxl h
                  have HK1 := Lib.hid (HKY.out wy x (HXa.out.trans HB.out.1) hxl)
                  have HK2 : Hid (∀ W, Ext wy W → Calls Tryz.prog F (.int .i64 (a : Int) :: .int .i64 (v : Int) :: caps).toArray W fun e w' => e = .returned (.int .i64 (ky v)) ∧ Ext W w') := Lib.hid fun W e => HKY.out W v ((HXa.out.trans HB.out.1).trans e) hvl
                  obtain ⟨kx, hkx⟩ : ∃ z, z = ky x := ⟨_, rfl⟩
                  obtain ⟨kv, hkv⟩ : ∃ z, z = ky v := ⟨_, rfl⟩
                  rw [← hkx] at HNO HYES HK1
                  rw [← hkv] at HNO HYES HK2
                  clear hkx hkv
                  have hv64 : v < 64 := by omega
                  go_wp2_with fail
                  refine HK1.out.mono ?_
                  rintro _ w6 ⟨rfl, hE6⟩
                  dsimp only
                  go_wp2_with fail
                  refine (HK2.out _ hE6).mono ?_
                  rintro _ w7 ⟨rfl, hE7⟩
                  have HE7 := Lib.hid (hE6.trans hE7)
                  clear hE6 hE7 HK1 HK2
                  dsimp only
                  cases hkk : (kx == kv)
                  · have HN := Lib.hid (HNO.out hkk)
                    go_wp2_with fail
                    go_roundw
                    case rel => exact ⟨v + 1, hvl, by go_num, Lib.hid ⟨HB.out.1.trans HE7.out, by rw [HN.out]; exact HB.out.2.ext HE7.out⟩⟩
                    case measure => simp [RowKit.intOf]; omega
                  · have HY := Lib.hid (HYES.out hkk)
                    have kf := (HB.out.2.ext HE7.out).frozen x
                    have kl := (HB.out.2.ext HE7.out).lt
                    have kc := (HB.out.2.ext HE7.out).cell hxl
                    have HPT := Lib.hid (((HB.out.2.ext HE7.out).ext (Ext.refl w7).drew).set x (nth (bldK ws.length ky x v) x ||| 1#64 <<< v))
                    rw [HY.out] at HPT
                    generalize nth (bldK ws.length ky x v) x = Y at *
                    change w7.cell? ⟨wa.heap.size, x, none⟩ = some (.int .u64 (un Y)) at kc
                    have hi1 : (0 : Int) ≤ (x : Int) := by omega
                    have hi2 : (x : Int) < (ws.length : Int) := by omega
                    go_wp2_with fail
                    refine wp_region_E 8 (fun w' => w'.cell? ⟨wa.heap.size, x, none⟩ = some (.int .u64 (un Y))) (by kernel_rfl) ?_
                    refine wpAnyE_take (i := 0) (v := ?_) (.here) (by kernel_rfl) (fun _ _ _ h => h) (kc) (by rfl) ?_ ?_
                    rotate_left
                    focus (intro w hSw; (try dsimp only at hSw); go_simp; try with_reducible rfl)
                    try simp only [Act.put, List.setIfInBounds_toArray, List.set_cons_zero, List.set_cons_succ]
                    refine wpAnyE_take (i := 1) (v := ?_) (.next (.here)) (by kernel_rfl) (fun _ _ _ h => h) (kc) (by rfl) ?_ ?_
                    rotate_left
                    focus (intro w hSw; (try dsimp only at hSw); go_simp; try with_reducible rfl)
                    try simp only [Act.put, List.setIfInBounds_toArray, List.set_cons_zero, List.set_cons_succ]
                    refine wpAnyE_take (i := 2) (v := ?_) (.next (.next (.here))) (by kernel_rfl) (fun _ _ _ h => h) (kc) (by rfl) ?_ ?_
                    rotate_left
                    focus (intro w hSw; (try dsimp only at hSw); go_simp; try with_reducible rfl)
                    try simp only [Act.put, List.setIfInBounds_toArray, List.set_cons_zero, List.set_cons_succ]
                    refine wpAnyE_take (i := 3) (v := ?_) (.next (.next (.next (.here)))) (by kernel_rfl) (fun _ _ _ h => h) (kc) (by rfl) ?_ ?_
                    rotate_left
                    focus (intro w hSw; (try dsimp only at hSw); go_simp; try with_reducible rfl)
                    try simp only [Act.put, List.setIfInBounds_toArray, List.set_cons_zero, List.set_cons_succ]
                    refine wpAnyE_take (i := 4) (v := ?_) (.next (.next (.next (.next (.here))))) (by kernel_rfl) (fun _ _ _ h => h) (kc) (by rfl) ?_ ?_
                    rotate_left
                    focus (intro w hSw; (try dsimp only at hSw); go_simp; try with_reducible rfl)
                    try simp only [Act.put, List.setIfInBounds_toArray, List.set_cons_zero, List.set_cons_succ]
                    refine wpAnyE_take (i := 5) (v := ?_) (.next (.next (.next (.next (.next (.here)))))) (by kernel_rfl) (fun _ _ _ h => h) (kc) (by rfl) ?_ ?_
                    rotate_left
                    focus (intro w hSw; (try dsimp only at hSw); go_simp; try with_reducible rfl)
                    try simp only [Act.put, List.setIfInBounds_toArray, List.set_cons_zero, List.set_cons_succ]
                    refine wpAnyE_take (i := 6) (v := ?_) (.next (.next (.next (.next (.next (.next (.here))))))) (by kernel_rfl) (fun _ _ _ h => h) (kc) (by rfl) ?_ ?_
                    rotate_left
                    focus (intro w hSw; (try dsimp only at hSw); go_simp; try with_reducible rfl)
                    try simp only [Act.put, List.setIfInBounds_toArray, List.set_cons_zero, List.set_cons_succ]
                    refine wpAnyE_take (i := 7) (v := ?_) (.next (.next (.next (.next (.next (.next (.next (.here)))))))) (by kernel_rfl) (fun _ _ _ h => h) (kc) (by rfl) ?_ ?_
                    rotate_left
                    focus (intro w hSw; (try dsimp only at hSw); go_simp; try with_reducible rfl)
                    try simp only [Act.put, List.setIfInBounds_toArray, List.set_cons_zero, List.set_cons_succ]
                    refine wpAnyE_seq [8] (.cons (.next (.next (.next (.next (.next (.next (.next (.next (.here))))))))) (.nil)) (by kernel_rfl) (by kernel_rfl) ?_
                    have kc' : w7.drew.cell? ⟨wa.heap.size, x, none⟩ = some (.int .u64 (un Y)) := kc
                    have kf' : w7.drew.frozen? ⟨wa.heap.size, x, none⟩ = false := kf
                    go_wp2_with fail
                    go_roundw
                    case rel => exact ⟨v + 1, hvl, by go_num, Lib.hid ⟨((HB.out.1.trans HE7.out).drew).setCell (Nat.le_refl _) _, HPT.out⟩⟩
                    case measure => simp [RowKit.intOf]; omega
                · obtain rfl : v = ws.length := by omega
                  go_wp2_with fail
                  go_roundw
                  case rel => exact ⟨x + 1, hxl, by go_num, Lib.hid ⟨HB.out.1, by rw [← bldK_next]; exact HB.out.2⟩⟩
                  case measure => simp [RowKit.intOf]; omega
            · obtain rfl : x = ws.length := by omega
              have hOU : OU wz wa.heap.size (.slice (some ⟨wa.heap.size, 0, none⟩) ws.length ws.length) (nth Rows a) := by
                have h := HB.out.2.row
                rw [bldK_end, ← HROW.out] at h
                unfold OU
                rw [HROW.out, show (bldRow ws.length ky).length = ws.length by simp [bldRow], ← HROW.out]
                exact h
              have HAP := Lib.hid (HAR.out.apart hOU)
              have HA3 := Lib.hid (HAR.out.ext' HB.out.1)
              obtain ⟨o0, o1, o2, ofz⟩ := HA3.out.out
              have hsz3 := HA3.out.out.lt
              have hsz2 := HAR.out.out.lt
              have hfz := ofz 2
              have hrl2 : svs.length = a := by rw [HA3.out.rl, List.length_take]; omega
              have HPA : Hid (∀ o, ARq w3 (w.heap.size + 2) ws.length (.slice (some ⟨w.heap.size + 1, 0, none⟩) facts facts) svs (Rows.take a) vr (wz.alloc o)) := Lib.hid fun o => HA3.out.ext' ((Ext.refl wz).alloc o)
              have hrow3 : OU wz (w.heap.size + 2 + 1) (.slice (some ⟨wa.heap.size, 0, none⟩) ws.length ws.length) (nth Rows a) := OU.mono (b' := w.heap.size + 2 + 1) hOU (by omega)
              have HR4 : Hid (∀ o, OU (wz.alloc o) (w.heap.size + 2 + 1) (.slice (some ⟨wa.heap.size, 0, none⟩) ws.length ws.length) (nth Rows a)) := Lib.hid fun o => hrow3.ext ((Ext.refl wz).alloc o)
              have HONE : Hid (∀ u ∈ [Value.slice (some ⟨wa.heap.size, 0, none⟩) ws.length ws.length], u.oneCell' = true) := fun u hu => by
                rcases List.mem_singleton.1 hu with rfl
                rfl
              have hone : Rows.take (a + 1) = Rows.take a ++ [nth Rows a] := by
                rw [nth_eq _ _ (by omega), List.take_add_one, List.getElem?_eq_getElem (by omega)]; rfl
              have HONE1 := Lib.hid hone
              clear hrow3 hone hOU ofz
              go_wp2_with (at_builtin; refine wpList_append_lies _ rfl _ _ 26 rfl (w.heap.size + 2 + 1) 25 i2 _ 1 24 Tryz.underlying26 hj1 hy0 hy1 hy2 rfl (by decide) vr svs.length svs rfl (HPA.out _).orr ⟨wz.heap.size, 0, none⟩ 1 1 [.slice (some ⟨wa.heap.size, 0, none⟩) ws.length ws.length] rfl rfl (cell_one_new _ _ _) HONE.out (by decide) (by unfold maxLen; omega) (by omega) (by simp; omega) (wz.heap.size + 1) (by simp) ?_; intro gx cap W1 hown hgrow hat hlt2; obtain ⟨p0, p1, p2, pfz⟩ := (HPA.out _).outR hgrow; have pf := pfz 2; clear pfz; have hnew := (HPA.out _).push (HR4.out _) HAP.out hown hgrow; have HNEW := Lib.hid hnew; clear hnew hown hgrow hat)
              go_roundw
              case rel => exact ⟨a + 1, hal, by go_num, Lib.hid ⟨_, _, by rw [HONE1.out]; rw [hrl2] at HNEW; exact HNEW.out⟩⟩
              case measure => simp [RowKit.intOf]; omega
        · obtain rfl : a = agents := by omega
          have hfull2 : Rows.take a = Rows := List.take_of_length_le (by omega)
          rw [hfull2] at HAR
          have hsl : svs.length = a := by rw [HAR.out.rl]; exact hRl
          clear hfull2
          obtain ⟨r1, rc1, hvr⟩ : ∃ p c, vr = .slice p a c := by
            rcases HAR.out.orr.2 with ⟨rfl, h0⟩ | ⟨g, cap, cur, rfl, _⟩
            · exact ⟨none, 0, by rw [← hsl, h0]⟩
            · exact ⟨some ⟨g, 0, none⟩, cap, by rw [hsl]⟩
          subst hvr
          obtain ⟨o0, o1, o2, -⟩ := HAR.out.out
          have hol := HAR.out.out.lt
          have HOF := Lib.hid (HR3.out _ HAR.out.e)
          obtain ⟨q0, q1, q2, qfz⟩ := HOF.out
          have f0 := qfz 0
          have f1 := qfz 1
          have f2 := qfz 2
          have ql := HOF.out.lt
          clear qfz
          go_wp2_with fail
          have hk2 : ∀ {B T sz m : Nat} {v : Value} {xs : List Value}, w.heap.size < B → wa.ownsRow B T sz v m xs → (((wa.setCell ⟨w.heap.size, 0, none⟩ (.int .i64 (ws.length : Int))).setCell ⟨w.heap.size, 1, none⟩ (.slice (some ⟨w.heap.size + 1, 0, none⟩) facts facts)).setCell ⟨w.heap.size, 2, none⟩ (.slice r1 a rc1)).ownsRow B T sz v m xs := by
            intro B T sz m v xs hB ho
            exact setOther (setOther (setOther ho (by omega)) (by omega)) (by omega)
          have hEx : Ext w (((wa.setCell ⟨w.heap.size, 0, none⟩ (.int .i64 (ws.length : Int))).setCell ⟨w.heap.size, 1, none⟩ (.slice (some ⟨w.heap.size + 1, 0, none⟩) facts facts)).setCell ⟨w.heap.size, 2, none⟩ (.slice r1 a rc1)) := ((HXa.out.setCell (by simp) _).setCell (by simp) _).setCell (by simp) _
          have hkeep : ∀ k, k < w.heap.size + 2 → k ≠ w.heap.size → (((wa.setCell ⟨w.heap.size, 0, none⟩ (.int .i64 (ws.length : Int))).setCell ⟨w.heap.size, 1, none⟩ (.slice (some ⟨w.heap.size + 1, 0, none⟩) facts facts)).setCell ⟨w.heap.size, 2, none⟩ (.slice r1 a rc1)).heap[k]? = w3.heap[k]? := fun k h1 h2 => by
            rw [heap_setCell_other _ ⟨w.heap.size, 2, none⟩ k _ (by simpa using h2), heap_setCell_other _ ⟨w.heap.size, 1, none⟩ k _ (by simpa using h2), heap_setCell_other _ ⟨w.heap.size, 0, none⟩ k _ (by simpa using h2)]
            exact HAR.out.e.block k h1
          have horr := hk2 (by omega) HAR.out.orr
          have hrw := fun j hj => hk2 (B := w.heap.size + 2 + 1) (by omega) (HAR.out.rw j hj)
          have hrl3 := HAR.out.rl
          have hszW : (((wa.setCell ⟨w.heap.size, 0, none⟩ (.int .i64 (ws.length : Int))).setCell ⟨w.heap.size, 1, none⟩ (.slice (some ⟨w.heap.size + 1, 0, none⟩) facts facts)).setCell ⟨w.heap.size, 2, none⟩ (.slice r1 a rc1)).heap.size = wa.heap.size := by simp
          obtain ⟨d0, d1, d2, -⟩ := ((HOF.out.set0 (.int .i64 (ws.length : Int))).set1 (.slice (some ⟨w.heap.size + 1, 0, none⟩) facts facts)).set2 (.slice r1 a rc1)
          generalize ((wa.setCell ⟨w.heap.size, 0, none⟩ (.int .i64 (ws.length : Int))).setCell ⟨w.heap.size, 1, none⟩ (.slice (some ⟨w.heap.size + 1, 0, none⟩) facts facts)).setCell ⟨w.heap.size, 2, none⟩ (.slice r1 a rc1) = W2 at *
          refine bodyPost_ret (v := .agg #[.int .i64 (ws.length : Int), (.slice (some ⟨w.heap.size + 1, 0, none⟩) facts facts), .slice r1 a rc1]) ?_ rfl ?_
          · rw [results_cell_oneA rfl]
            go_simp
          · have hvl : (bldM facts ws a key).val.length = facts := by simp [bldM]
            have hrl2 : (bldM facts ws a key).rel.length = a := by simp [bldM]
            refine ⟨some ⟨w.heap.size + 1, 0, none⟩, r1, facts, rc1, by rw [hvl, hrl2]; rfl, fun w'' hag => ⟨?_, ?_⟩, hEx⟩
            · have hRU : RU w3 (some ⟨w.heap.size + 1, 0, none⟩) ((List.range facts).map fun p => bldV ws p) := RU_of_OG HBe.out (by omega)
              have hb : w''.heap[w.heap.size + 1]? = w3.heap[w.heap.size + 1]? := (hag _ (by omega) (by omega)).trans (hkeep _ (by omega) (by omega))
              refine ⟨hRU.len, fun k hk => ?_⟩
              obtain ⟨b, o, e, hc⟩ := hRU.at_ k hk
              simp only [Option.some.injEq, Addr.mk.injEq] at e
              obtain ⟨rfl, rfl, -⟩ := e
              exact ⟨_, _, rfl, (World.cell?_of_block hb).trans hc⟩
            · show RR w'' r1 ((List.range a).map fun a => bldRow ws.length (key a))
              rw [← HRe.out]
              have hRk : ∀ j, j < Rows.length → (nth Rows j).length ≤ 140737488355328 := fun j hj => by
                rw [HRow.out j (by omega)]; simp [bldRow]; omega
              exact RR_of_rows (own_agree (own_mono (B' := w.heap.size) horr (by omega)) hag) hrl3 (fun j hj => own_agree (own_mono (B' := w.heap.size) (hrw j hj) (by omega)) hag) (by omega) hRk
end Wt
