/- Walks: slices.Clone, model.gather, Meet, Group. -/
import Derived.Test.YtoacdccachhjdaaGreatDoorMAAa
import Derived.Maps.AppendAt
import Derived.Deep.QuietTactic
import Derived.BigQuiet
import Derived.StillTailTactics
namespace Wt
open Go Go.RowKit Go.Proofs

def uv (s : BitVec 64) : Value := .int .u64 (un s)
/-- A slice of sets that the call owns. -/
def OU (w : World) (base : Nat) (v : Value) (l : List (BitVec 64)) : Prop := w.ownsRow base 63 1 v l.length (l.map uv)
theorem RU_of_OU {w : World} {base : Nat} {v : Value} {l : List (BitVec 64)} (h : OU w base v l) (hl : l.length ≤ 140737488355328) : ∃ a c, v = .slice a l.length c ∧ RU w a l := by
  rcases h.2 with ⟨rfl, h0⟩ | ⟨g, cap, cur, rfl, hb, hg, hnc, hcm, hcs, htake⟩
  · have : l = [] := List.eq_nil_of_length_eq_zero h0
    subst this
    exact ⟨none, 0, rfl, RU.nil _ _⟩
  · refine ⟨some ⟨g, 0, none⟩, cap, rfl, hl, fun k hk => ⟨g, 0, rfl, ?_⟩⟩
    rw [cell_of_row w g _ cur _ (0, 0) hg, Nat.zero_add]
    have h1 : (l.map uv)[k]? = some (uv (nth l k)) := by rw [List.getElem?_map, nth_eq l k hk]; simp [hk]
    rw [← htake, List.getElem?_take, if_pos (by omega)] at h1
    simpa [uv] using h1
/-- One element is written. -/
theorem OU.set {w : World} {base : Nat} {a : Option Addr} {c : Nat} {l : List (BitVec 64)} (h : OU w base (.slice a l.length c) l) {k : Nat} (hk : k < l.length) (s : BitVec 64) :
    ∃ g, a = some ⟨g, 0, none⟩ ∧ base ≤ g ∧ g < w.heap.size ∧ w.frozen? ⟨g, k, none⟩ = false ∧ (∃ u, w.cell? ⟨g, k, none⟩ = some u) ∧ OU (w.setCell ⟨g, k, none⟩ (uv s)) base (.slice a l.length c) (l.set k s) := by
  rcases h.2 with ⟨h0, h1⟩ | ⟨g, cap, cur, hv, hb, hg, hnc, hcm, hcs, htake⟩
  · omega
  · simp only [Value.slice.injEq] at hv
    obtain ⟨rfl, _, rfl⟩ := hv
    refine ⟨g, rfl, hb, (Array.getElem?_eq_some_iff.1 hg).1, ?_, ?_, ?_⟩
    · simp [World.frozen?, hg]
    · rw [cell_of_row w g _ cur _ (0, 0) hg]
      have hk2 : k < cur.size := by omega
      exact ⟨cur[k], by simp [hk2]⟩
    · refine ⟨by simp, .inr ⟨g, c, cur.setIfInBounds k (uv s), by simp, hb, ?_, by simpa using hnc, hcm, by simpa using hcs, ?_⟩⟩
      · simp [World.setCell, Array.getElem?_modify, hg]
      · have e : (cur.setIfInBounds k (uv s)).toList = cur.toList.set k (uv s) := by simp
        rw [e, List.length_set, List.take_set, htake, List.map_set]
theorem OU.ext {w w' : World} {base : Nat} {v : Value} {l : List (BitVec 64)} (h : OU w base v l) (e : Ext w w') : OU w' base v l :=
  World.ownsRow.kept h (row := none) ⟨e.os, e.tape, e.output, e.size, fun k hk _ => e.block k hk⟩ (by cases v.ownBlock <;> simp)
theorem u64_info : (Tryz.prog.info? 63).map (fun i => (i.zero, i.size, i.bytes)) = some (some (.int .u64 0), 1, 8) := by kernel_rfl
theorem uv_one (l : List (BitVec 64)) : ∀ u ∈ l.map uv, u.oneCell' = true := by
  intro u hu
  obtain ⟨s, _, rfl⟩ := List.mem_map.1 hu
  rfl
/-- What is read one by one is read as a row. -/
theorem RU.news {w : World} {a : Addr} {l : List (BitVec 64)} (h : RU w (some a) l) : ∀ j u, (l.map uv)[j]? = some u → w.cell? (a.add j) = some u := by
  intro j u hj
  rw [List.getElem?_map] at hj
  by_cases hjl : j < l.length
  · obtain ⟨b, off, e, hc⟩ := h.at_ j hjl
    simp only [Option.some.injEq] at e
    subst e
    simp [hjl] at hj
    rw [← hj, Addr.add_lit, hc, nth_eq l j hjl]; rfl
  · simp [hjl] at hj

set_option maxRecDepth 20000 in
set_option maxHeartbeats 1000000 in
theorem clone_u (a : Addr) (c : Nat) (l : List (BitVec 64)) (w : World) (hr : RU w (some a) l) (hl : l.length ≤ 1000) :
    Calls Tryz.prog 198 #[.slice (some a) l.length c] w fun e w' => (∃ v, e = .returned v ∧ OU w' w.heap.size v l) ∧ Ext w w' := by
  obtain ⟨i0, hi1, hz0, hz1, hz2⟩ := info_parts u64_info
  have hne := fun (W : World) (x : Option Addr) (n c : Nat) => Lib.run_eql_slice_nil (P := Tryz.prog) W 25 63 x n c 0 0 Tryz.underlying25
  have HN := Lib.hid hr.news
  have HO := Lib.hid (uv_one l)
  clear hr
  go_enter Tryz.func198, Tryz.ntmps198
  go_wp2_with (at_builtin; refine wpList_append_own_at _ rfl _ _ 25 rfl w.heap.size 63 i0 _ 1 8 Tryz.underlying25 hi1 hz0 hz1 hz2 rfl (by decide) _ 0 [] rfl ?c0 a l.length c (l.map uv) rfl ?c6 ?c1 HO.out ?c3 ?c4 ?c5 ?_)
  case c0 => exact World.ownsRow_made w #[] 0 (Nat.le_refl _) (by unfold maxLen; omega) rfl
  case c6 => simp
  case c1 => exact fun j u h => ((Ext.refl w).alloc _).cell (HN.out j u h)
  case c3 => unfold maxLen; omega
  case c4 => omega
  case c5 => simp
  intro v' W1 hown hgr _ _
  have hE : Ext w W1 := Below.grown ((Ext.refl w).alloc _) hgr (Ext.size ((Ext.refl w).alloc _)) (fun k hk => by simp [Value.ownBlock] at hk; omega)
  clear hgr
  go_wp2
  go_ret
  exact ⟨⟨v', rfl, by unfold OU; simpa using hown⟩, hE⟩

/-- The join of the relations of a group, among the first k agents. -/
def gat (j : BitVec 64 → BitVec 64 → BitVec 64) (R : List (List (BitVec 64))) (g : Nat) : Nat → Option (List (BitVec 64))
  | 0 => none
  | k + 1 => if g.testBit k then (match gat j R g k with | none => some (nth R k) | some x => some (List.zipWith j x (nth R k))) else gat j R g k
def mix (j : BitVec 64 → BitVec 64 → BitVec 64) (x y : List (BitVec 64)) (k : Nat) : List (BitVec 64) := (List.zipWith j x y).take k ++ x.drop k
theorem mix_zero (j : BitVec 64 → BitVec 64 → BitVec 64) (x y : List (BitVec 64)) : mix j x y 0 = x := by simp [mix]
theorem mix_all (j : BitVec 64 → BitVec 64 → BitVec 64) (x y : List (BitVec 64)) (h : x.length = y.length) : mix j x y x.length = List.zipWith j x y := by
  unfold mix
  rw [List.drop_of_length_le (Nat.le_refl _), List.append_nil, List.take_of_length_le (by simp; omega)]
theorem mix_length (j : BitVec 64 → BitVec 64 → BitVec 64) (x y : List (BitVec 64)) (h : x.length = y.length) (k : Nat) (hk : k ≤ x.length) : (mix j x y k).length = x.length := by
  simp [mix]; omega
theorem mix_nth (j : BitVec 64 → BitVec 64 → BitVec 64) (x y : List (BitVec 64)) (h : x.length = y.length) (k : Nat) (hk : k < x.length) : nth (mix j x y k) k = nth x k := by
  rw [nth_eq _ _ (by rw [mix_length j x y h k (by omega)]; exact hk), nth_eq _ _ hk]
  unfold mix
  rw [List.getElem_append_right (by simp; omega)]
  simp [show min k (min x.length y.length) = k by omega]
theorem mix_step (j : BitVec 64 → BitVec 64 → BitVec 64) (x y : List (BitVec 64)) (h : x.length = y.length) (k : Nat) (hk : k < x.length) : (mix j x y k).set k (j (nth x k) (nth y k)) = mix j x y (k + 1) := by
  rw [nth_eq _ _ hk, nth_eq _ _ (show k < y.length by omega)]
  unfold mix
  apply List.ext_getElem?
  intro i
  have hl : (List.zipWith j x y).length = x.length := by simp; omega
  rw [List.getElem?_set, List.getElem?_append, List.getElem?_append, List.length_append, List.length_take, List.length_take, List.length_drop, hl]
  by_cases e : k = i
  · subst e
    rw [if_pos rfl, if_pos (by omega), if_pos (by omega), List.getElem?_take, if_pos (by omega)]
    rw [List.getElem?_eq_getElem (by rw [hl]; exact hk), List.getElem_zipWith]
  · rw [if_neg e]
    by_cases e2 : i < k
    · rw [if_pos (by omega), if_pos (by omega), List.getElem?_take, List.getElem?_take, if_pos e2, if_pos (by omega)]
    · rw [if_neg (by omega), if_neg (by omega), List.getElem?_drop, List.getElem?_drop]
      congr 1
      omega
end Wt

/- Walks: model.gather, Meet, Group. -/
namespace Wt
open Go Go.RowKit Go.Proofs

/-- The shape of a model that is right. -/
structure MoOk (M : Mo) (n : Nat) : Prop where
  worlds : M.worlds = n
  one : 1 ≤ n
  most : n ≤ 64
  rel : M.rel.length ≤ 4
  val : M.val.length ≤ 8
  row : ∀ r ∈ M.rel, r.length = n
  valIn : ∀ s ∈ M.val, s &&& ~~~ allW n = 0#64
  relIn : ∀ r ∈ M.rel, ∀ s ∈ r, s &&& ~~~ allW n = 0#64
theorem moCheck_ok {M : Mo} (h : moCheck M = 0) : ∃ n, MoOk M n := by
  unfold moCheck at h
  by_cases h1 : M.worlds < 1 ∨ 64 < M.worlds
  · rw [if_pos h1] at h; omega
  · rw [if_neg h1] at h
    by_cases h2 : 4 < M.rel.length ∨ 8 < M.val.length
    · rw [if_pos h2] at h; omega
    · rw [if_neg h2] at h
      by_cases h3 : M.rel.any (fun r => (r.length : Int) != M.worlds) = true
      · rw [if_pos h3] at h; omega
      · rw [if_neg h3] at h
        by_cases h4 : (outL M.worlds.toNat M.val || M.rel.any (outL M.worlds.toNat)) = true
        · rw [if_pos h4] at h; omega
        · obtain ⟨n, hn⟩ := Int.eq_ofNat_of_zero_le (show 0 ≤ M.worlds by omega)
          rw [hn] at h1 h3 h4
          simp only [Int.toNat_natCast, Bool.or_eq_true, not_or, Bool.not_eq_true] at h3 h4
          refine ⟨n, hn, by omega, by omega, by omega, by omega, fun r hr => ?_, fun s hs => ?_, fun r hr s hs => ?_⟩
          · have := List.any_eq_false.1 h3 r hr
            simp at this; omega
          · have := List.any_eq_false.1 h4.1 s hs
            simpa [outOne] using this
          · have := List.any_eq_false.1 h4.2 r hr
            have := List.any_eq_false.1 (by simpa [outL] using this) s hs
            simpa [outOne] using this
theorem MoOk.check {M : Mo} {n : Nat} (h : MoOk M n) : moCheck M = 0 := by
  unfold moCheck
  rw [if_neg (by have := h.worlds; have := h.one; have := h.most; omega), if_neg (by have := h.rel; have := h.val; omega), if_neg, if_neg]
  · rw [h.worlds]
    simp only [Int.toNat_natCast, Bool.or_eq_true, not_or, Bool.not_eq_true]
    refine ⟨List.any_eq_false.2 fun s hs => by simp [outOne, h.valIn s hs], List.any_eq_false.2 fun r hr => ?_⟩
    simp only [Bool.not_eq_true]
    exact List.any_eq_false.2 fun s hs => by simp [outOne, h.relIn r hr s hs]
  · simp only [Bool.not_eq_true]
    exact List.any_eq_false.2 fun r hr => by simp [h.row r hr, h.worlds]

/-- What the variable of gather holds. -/
def GatV (W : World) (base : Nat) (v : Value) : Option (List (BitVec 64)) → Prop
  | none => v = .slice none 0 0
  | some l => OU W base v l
theorem OU.mono {W : World} {b b' : Nat} {v : Value} {l : List (BitVec 64)} (h : OU W b v l) (hb : b' ≤ b) : OU W b' v l := by
  refine ⟨h.1, ?_⟩
  rcases h.2 with hn | ⟨g, cap, cur, rfl, hg, rest⟩
  · exact .inl hn
  · exact .inr ⟨g, cap, cur, rfl, Nat.le_trans hb hg, rest⟩
theorem GatV.ext {W W' : World} {base : Nat} {v : Value} {x : Option (List (BitVec 64))} (h : GatV W base v x) (e : Ext W W') : GatV W' base v x := by
  cases x with
  | none => exact h
  | some l => exact OU.ext h e
theorem OU.set' {w : World} {base n : Nat} {a : Option Addr} {c : Nat} {l : List (BitVec 64)} (h : OU w base (.slice a n c) l) (hn : l.length = n) {k : Nat} (hk : k < n) (s : BitVec 64) :
    ∃ g, a = some ⟨g, 0, none⟩ ∧ base ≤ g ∧ g < w.heap.size ∧ w.frozen? ⟨g, k, none⟩ = false ∧ (∃ u, w.cell? ⟨g, k, none⟩ = some u) ∧ OU (w.setCell ⟨g, k, none⟩ (uv s)) base (.slice a n c) (l.set k s) := by
  subst hn; exact OU.set h hk s
theorem RU_of_OU' {w : World} {base n : Nat} {a : Option Addr} {c : Nat} {l : List (BitVec 64)} (h : OU w base (.slice a n c) l) (hn : l.length = n) (hl : n ≤ 140737488355328) : RU w a l := by
  subst hn
  obtain ⟨a2, c2, e, hu⟩ := RU_of_OU h hl
  simp only [Value.slice.injEq] at e
  rw [e.1]; exact hu
/-- Is a number a group of the agents of a model? -/
def isGroup (M : Mo) (g : Int) : Bool := decide (moCheck M = 0 ∧ 1 ≤ g ∧ g < p2 M.rel.length)
def gather (j : BitVec 64 → BitVec 64 → BitVec 64) (M : Mo) (g : Int) : List (BitVec 64) := if isGroup M g then (gat j M.rel g.toNat M.rel.length).getD [] else []
theorem gat_len (j : BitVec 64 → BitVec 64 → BitVec 64) (R : List (List (BitVec 64))) (g n : Nat) (h : ∀ r ∈ R, r.length = n) : ∀ k, k ≤ R.length → ∀ x, gat j R g k = some x → x.length = n
  | 0, _, x, hx => by simp [gat] at hx
  | k + 1, hk, x, hx => by
    have hr : (nth R k).length = n := h _ (by rw [nth_eq R k (by omega)]; exact List.getElem_mem _)
    unfold gat at hx
    split at hx
    · split at hx
      · cases hx; exact hr
      · rename_i y hy
        have := gat_len j R g n h k (by omega) y hy
        cases hx
        simp; omega
    · exact gat_len j R g n h k (by omega) x hx

set_option maxRecDepth 20000 in
set_option maxHeartbeats 2000000 in
theorem gather_any (F : Nat) (j : BitVec 64 → BitVec 64 → BitVec 64) (M : Mo) (va ra : Option Addr) (vc rc : Nat) (g : Int) (w : World) (hr : RM w va ra M)
    (hF : ∀ args W, (callFunc F args).run Tryz.prog W = .ok (.enter F args) W)
    (hp : ∀ W x y, Calls Tryz.prog F #[.int .u64 (un x), .int .u64 (un y)] W fun e w' => e = .returned (.int .u64 (un (j x y))) ∧ w' = W) :
    Calls Tryz.prog 193 #[.agg #[.int .i64 M.worlds, .slice va M.val.length vc, .slice ra M.rel.length rc], .int .i64 g, .func (.func F) #[] #[]] w fun e w' =>
      (∃ v, e = .returned v ∧ OU w' w.heap.size v (gather j M g)) ∧ Ext w w' := by
  have hne := fun (W : World) (x : Option Addr) (n c : Nat) => Lib.run_eql_slice_nil (P := Tryz.prog) W 25 63 x n c 0 0 Tryz.underlying25
  have hE0 := (Ext.refl w).alloc (.cells #[.int .i64 M.worlds, .slice va M.val.length vc, .slice ra M.rel.length rc] 28)
  have hr0 := hr.ext hE0
  by_cases h1 : moCheck M = 0
  · obtain ⟨n, hok⟩ := moCheck_ok h1
    by_cases h2 : g < 1
    · have hn : gather j M g = [] := by unfold gather isGroup; rw [if_neg (by simp; omega)]
      have HN := Lib.hid hn
      have H1 := Lib.hid h1
      have HE := Lib.hid hE0
      have HO := Lib.hid hok
      clear hn h1 hp hE0 hok
      go_enter Tryz.func193, Tryz.ntmps193
      go_wp2_with (go_at_call 71; refine (modelCheck_any M va ra vc rc _ hr0).mono ?_; rintro e w1 ⟨rfl, hE1⟩; rw [H1.out])
      go_ret
      rw [HN.out]
      exact ⟨⟨_, rfl, World.ownsRow_nil _ _ _ _⟩, HE.out.trans hE1⟩
    · obtain ⟨gn, rfl⟩ := Int.eq_ofNat_of_zero_le (show 0 ≤ g by omega)
      by_cases h3 : (gn : Int) < p2 M.rel.length
      · have hn : gather j M gn = (gat j M.rel gn M.rel.length).getD [] := by unfold gather isGroup; rw [if_pos (by simp [h1, h3]; omega)]; rfl
        have HN := Lib.hid hn
        have H1 := Lib.hid h1
        have HE := Lib.hid hE0
        have HOK := Lib.hid hok
        have HP := Lib.hid hp
        have HR := Lib.hid hr
        have hrl : M.rel.length < 63 := by have := hok.rel; omega
        have hgn : gn < 9223372036854775808 := by
          have h4 := hok.rel
          unfold p2 at h3
          have h5 : 2 ^ M.rel.length ≤ 2 ^ 4 := Nat.pow_le_pow_right (by omega) h4
          omega
        have hn1 := hok.one
        have hn64 := hok.most
        obtain ⟨m0, m1, m2⟩ := MoBox.new w M.worlds M.val M.rel va vc ra rc 28
        clear hn h1 hp hE0 hok hr
        go_enter Tryz.func193, Tryz.ntmps193
        go_wp2_with (go_at_call 71; refine (modelCheck_any M va ra vc rc _ hr0).mono ?_; rintro e w1 ⟨rfl, hE1⟩; rw [H1.out]; have q0 := hE1.cell m0; have q1 := hE1.cell m1; have q2 := hE1.cell m2; clear m0 m1 m2)
        clear q0 q1 q2
        go_loopw [7, 29] (fun o i wr => ∃ k : Nat, k ≤ M.rel.length ∧ i = .int .i64 k ∧ Ext w wr ∧ GatV wr w.heap.size o (gat j M.rel gn k)) (fun _ i _ => M.rel.length - (intOf i).toNat)
        case atStart => exact ⟨0, Nat.zero_le _, rfl, HE.out.trans hE1, rfl⟩
        case round =>
          obtain ⟨k, hk, rfl, hE, hgv⟩ := hrel
          by_cases hlt : k < M.rel.length
          · obtain ⟨b, off, a', c', rfl, hb0, hc0, hu0⟩ := HR.out.rel.get hlt
            have hc := hE.cell hc0
            have hu := hu0.ext hE
            have HU0 := Lib.hid hu0
            clear hc0 hu0
            have hlen : (nth M.rel k).length = n := HOK.out.row _ (by rw [nth_eq _ _ hlt]; exact List.getElem_mem _)
            cases hbit : gn.testBit k
            · have hs : gat j M.rel gn (k + 1) = gat j M.rel gn k := by rw [gat, if_neg (by simp [hbit])]
              have HS := Lib.hid hs
              have HG := Lib.hid hgv
              clear hs hgv
              go_wp2
              go_roundw
              case rel => exact ⟨k + 1, hlt, by go_num, hE, by rw [HS.out]; exact HG.out⟩
              case measure => simp [intOf]; omega
            · cases hx : gat j M.rel gn k with
              | none =>
                have hs : gat j M.rel gn (k + 1) = some (nth M.rel k) := by rw [gat, if_pos hbit, hx]
                have HS := Lib.hid hs
                rw [hx] at hgv
                have hgv : u7 = .slice none 0 0 := hgv
                subst hgv
                obtain ⟨b2, off2, rfl, _⟩ := hu.get (k := 0) (by omega)
                have HU := Lib.hid hu
                have HLN := Lib.hid hlen
                clear hs hx hu hlen
                go_wp2_with (go_at_call 198; refine (clone_u _ _ _ _ HU.out (by rw [HLN.out]; omega)).mono ?_; rintro e w2 ⟨⟨v, rfl, hou⟩, hE2⟩)
                go_roundw
                case rel => exact ⟨k + 1, hlt, by go_num, hE.trans hE2, by rw [HS.out]; exact hou.mono hE.size⟩
                case measure => simp [intOf]; omega
              | some x =>
                have hxl : x.length = n := gat_len j M.rel gn n HOK.out.row k hk x hx
                have hs : gat j M.rel gn (k + 1) = some (List.zipWith j x (nth M.rel k)) := by rw [gat, if_pos hbit, hx]
                have HS := Lib.hid hs
                rw [hx] at hgv
                have hou : OU wr w.heap.size u7 x := hgv
                obtain ⟨xa, xc, hv, _⟩ := RU_of_OU hou (by omega)
                rw [hxl] at hv
                subst hv
                have hou0 := hou
                obtain ⟨xg, rfl, _⟩ := OU.set' (k := 0) hou0 hxl (by omega) 0#64
                have HX := Lib.hid hxl
                have HLN := Lib.hid hlen
                have HOU := Lib.hid hou
                have hxy : x.length = (nth M.rel k).length := by omega
                have HXY := Lib.hid hxy
                clear hs hx hu hlen hxl hou hou0 hgv hxy
                go_wp2
                go_loopw [45] (fun i wr => ∃ k2 : Nat, k2 ≤ n ∧ i = .int .i64 k2 ∧ Ext w wr ∧ OU wr w.heap.size (.slice (some ⟨xg, 0, none⟩) n xc) (mix j x (nth M.rel k) k2)) (fun i _ => n - (intOf i).toNat)
                case atStart => exact ⟨0, Nat.zero_le _, rfl, hE, by rw [mix_zero]; exact HOU.out⟩
                case round =>
                  obtain ⟨k2, hk2, rfl, hE3, hou⟩ := hrel
                  have hmx := mix_length j x (nth M.rel k) HXY.out k2 (by rw [HX.out]; exact hk2)
                  rw [HX.out] at hmx
                  by_cases hlt2 : k2 < n
                  · obtain ⟨rb, roff, rfl, rbl, hrc⟩ := (HU0.out.ext hE3).get (k := k2) (by rw [HLN.out]; exact hlt2)
                    obtain ⟨xg2, hxg, hgb, hgl, hgf, _, hset⟩ := OU.set' hou hmx hlt2 (j (nth x k2) (nth (nth M.rel k) k2))
                    simp only [Option.some.injEq, Addr.mk.injEq] at hxg
                    obtain ⟨rfl, _⟩ := hxg
                    have hyu := RU_of_OU' hou hmx (by omega)
                    obtain ⟨yb, yoff, hyb, _, hyc⟩ := hyu.get (k := k2) (by omega)
                    simp only [Option.some.injEq, Addr.mk.injEq] at hyb
                    obtain ⟨rfl, rfl, _⟩ := hyb
                    rw [mix_nth j x _ HXY.out k2 (by rw [HX.out]; exact hlt2), Nat.zero_add] at hyc
                    rw [mix_step j x _ HXY.out k2 (by rw [HX.out]; exact hlt2)] at hset
                    have hrn : k2 < (nth M.rel k).length := by rw [HLN.out]; exact hlt2
                    have HSET := Lib.hid hset
                    have HRC := Lib.hid hou
                    clear hset hou hyu hmx
                    go_wp2
                    refine wp_region_still_tail 13 (by kernel_rfl) (by kernel_rfl) ?_
                    simp only [List.take_succ_cons, List.take_zero, List.drop_succ_cons, List.drop_zero]
                    repeat still_step
                    still_call (HP.out _ _ _)
                    repeat still_step
                    refine wpStill_nil ?_
                    have hgf2 : wr.drew.frozen? ⟨xg, k2, none⟩ = false := hgf
                    have hyc2 : wr.drew.cell? ⟨xg, k2, none⟩ = some (.int .u64 (un (nth x k2))) := hyc
                    have HED := Lib.hid hE3.drew
                    change wpList _ _ _ _ _ wr.drew
                    have HSET2 : Hid (OU (wr.drew.setCell ⟨xg, k2, none⟩ (uv (j (nth x k2) (nth (nth M.rel k) k2)))) w.heap.size (.slice (some ⟨xg, 0, none⟩) n xc) (mix j x (nth M.rel k) (k2 + 1))) := HSET.out
                    generalize wr.drew = wd at HED HSET2 hgf2 hyc2 ⊢
                    clear hgf hyc hrc
                    go_wp2
                    go_roundw
                    case rel => exact ⟨k2 + 1, hlt2, by go_num, HED.out.setCell hgb _, HSET2.out⟩
                    case measure => simp [intOf]; omega
                  · obtain rfl : k2 = n := by omega
                    have HM := Lib.hid hou
                    clear hou hmx
                    go_wp2
                    go_roundw
                    case rel =>
                      refine ⟨k + 1, hlt, by go_num, hE3, ?_⟩
                      rw [HS.out]
                      show OU _ _ _ _
                      have := HM.out
                      rw [← HX.out, mix_all j x _ HXY.out] at this
                      rw [← HX.out]
                      exact this
                    case measure => simp [intOf]; omega
          · go_wp2
            go_ret
            obtain rfl : k = M.rel.length := by omega
            cases hx : gat j M.rel gn M.rel.length with
            | none =>
              rw [hx] at hgv
              have hgv : u7 = .slice none 0 0 := hgv
              subst hgv
              rw [HN.out, hx]
              exact ⟨⟨_, rfl, World.ownsRow_nil _ _ _ _⟩, hE⟩
            | some x =>
              rw [hx] at hgv
              rw [HN.out, hx]
              exact ⟨⟨_, rfl, hgv⟩, hE⟩
      · have hn : gather j M gn = [] := by unfold gather isGroup; rw [if_neg (by simp [h3])]
        have HN := Lib.hid hn
        have H1 := Lib.hid h1
        have HE := Lib.hid hE0
        have hrl : M.rel.length < 63 := by have := hok.rel; omega
        obtain ⟨m0, m1, m2⟩ := MoBox.new w M.worlds M.val M.rel va vc ra rc 28
        clear hn h1 hp hE0 hok
        go_enter Tryz.func193, Tryz.ntmps193
        go_wp2_with (go_at_call 71; refine (modelCheck_any M va ra vc rc _ hr0).mono ?_; rintro e w1 ⟨rfl, hE1⟩; rw [H1.out]; have q0 := hE1.cell m0; have q1 := hE1.cell m1; have q2 := hE1.cell m2; clear m0 m1 m2)
        go_ret
        rw [HN.out]
        exact ⟨⟨_, rfl, World.ownsRow_nil _ _ _ _⟩, HE.out.trans hE1⟩
  · have hn : gather j M g = [] := by unfold gather isGroup; rw [if_neg (by simp [h1])]
    have HN := Lib.hid hn
    have hq : (moCheck M != 0) = true := by simp [h1]
    have HE := Lib.hid hE0
    clear hn h1 hp hE0
    go_enter Tryz.func193, Tryz.ntmps193
    go_wp2_with (go_at_call 71; refine (modelCheck_any M va ra vc rc _ hr0).mono ?_; rintro e w1 ⟨rfl, hE1⟩)
    go_ret
    rw [HN.out]
    exact ⟨⟨_, rfl, World.ownsRow_nil _ _ _ _⟩, HE.out.trans hE1⟩

set_option maxHeartbeats 1000000 in
theorem meet1_any (W : World) (x y : BitVec 64) : Calls Tryz.prog 194 #[.int .u64 (un x), .int .u64 (un y)] W fun e w' => e = .returned (.int .u64 (un (x &&& y))) ∧ w' = W := by
  go_enter Tryz.func194, Tryz.ntmps194
  go_wp2
  go_ret
  exact ⟨rfl, rfl⟩
set_option maxHeartbeats 1000000 in
theorem group1_any (W : World) (x y : BitVec 64) : Calls Tryz.prog 195 #[.int .u64 (un x), .int .u64 (un y)] W fun e w' => e = .returned (.int .u64 (un (x ||| y))) ∧ w' = W := by
  go_enter Tryz.func195, Tryz.ntmps195
  go_wp2
  go_ret
  exact ⟨rfl, rfl⟩
theorem cf_meet1 (args : Array Value) (W : World) : (callFunc 194 args).run Tryz.prog W = .ok (.enter 194 args) W := by
  simp [callFunc, Tryz.func194, Tryz.f194]
theorem cf_group1 (args : Array Value) (W : World) : (callFunc 195 args).run Tryz.prog W = .ok (.enter 195 args) W := by
  simp [callFunc, Tryz.func195, Tryz.f195]
/-- A slice of sets, which may be nil, holds a list. -/
def RetU (l : List (BitVec 64)) (e : Ending) (w w' : World) : Prop := ∃ a c, e = .returned (.slice a l.length c) ∧ RU w' a l ∧ Ext w w'
def meetOf (M : Mo) (g : Int) : List (BitVec 64) := gather (fun x y => x &&& y) M g
def groupOf (M : Mo) (g : Int) : List (BitVec 64) := gather (fun x y => x ||| y) M g
theorem gather_len (j : BitVec 64 → BitVec 64 → BitVec 64) (M : Mo) (g : Int) : (gather j M g).length ≤ 64 := by
  unfold gather isGroup
  by_cases h : moCheck M = 0 ∧ 1 ≤ g ∧ g < p2 M.rel.length
  · rw [if_pos (by simp [h])]
    obtain ⟨n, ok⟩ := moCheck_ok h.1
    cases hx : gat j M.rel g.toNat M.rel.length with
    | none => simp
    | some x => simp only [Option.getD_some]; rw [gat_len j M.rel g.toNat n ok.row _ (Nat.le_refl _) x hx]; exact ok.most
  · rw [if_neg (by simp [h])]; simp
set_option maxHeartbeats 1000000 in
theorem meet_any (M : Mo) (va ra : Option Addr) (vc rc : Nat) (g : Int) (w : World) (hr : RM w va ra M) :
    Calls Tryz.prog 176 #[.agg #[.int .i64 M.worlds, .slice va M.val.length vc, .slice ra M.rel.length rc], .int .i64 g] w fun e w' => RetU (meetOf M g) e w w' := by
  have H := Lib.hid (fun W (h : RM W va ra M) => gather_any 194 (fun x y => x &&& y) M va ra vc rc g W h cf_meet1 meet1_any)
  have hr0 := hr.ext ((Ext.refl w).alloc (.cells #[.int .i64 M.worlds, .slice va M.val.length vc, .slice ra M.rel.length rc] 28))
  go_enter Tryz.func176, Tryz.ntmps176
  go_wp2_with (go_at_call 193; refine (H.out _ hr0).mono ?_; rintro e w1 ⟨⟨v, rfl, hv⟩, hE⟩)
  obtain ⟨a, c, rfl, hu⟩ := RU_of_OU hv (by have := gather_len (fun x y => x &&& y) M g; omega)
  go_ret
  exact ⟨a, c, rfl, hu, ((Ext.refl w).alloc _).trans hE⟩
set_option maxHeartbeats 1000000 in
theorem group_any (M : Mo) (va ra : Option Addr) (vc rc : Nat) (g : Int) (w : World) (hr : RM w va ra M) :
    Calls Tryz.prog 177 #[.agg #[.int .i64 M.worlds, .slice va M.val.length vc, .slice ra M.rel.length rc], .int .i64 g] w fun e w' => RetU (groupOf M g) e w w' := by
  have H := Lib.hid (fun W (h : RM W va ra M) => gather_any 195 (fun x y => x ||| y) M va ra vc rc g W h cf_group1 group1_any)
  have hr0 := hr.ext ((Ext.refl w).alloc (.cells #[.int .i64 M.worlds, .slice va M.val.length vc, .slice ra M.rel.length rc] 28))
  go_enter Tryz.func177, Tryz.ntmps177
  go_wp2_with (go_at_call 193; refine (H.out _ hr0).mono ?_; rintro e w1 ⟨⟨v, rfl, hv⟩, hE⟩)
  obtain ⟨a, c, rfl, hu⟩ := RU_of_OU hv (by have := gather_len (fun x y => x ||| y) M g; omega)
  go_ret
  exact ⟨a, c, rfl, hu, ((Ext.refl w).alloc _).trans hE⟩
end Wt
