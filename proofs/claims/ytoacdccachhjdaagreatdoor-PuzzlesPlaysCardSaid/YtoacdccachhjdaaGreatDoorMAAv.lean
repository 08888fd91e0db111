/- Walks: wittinglaw17.example, holds; what the examples of the chapter come to. -/
import Derived.Test.YtoacdccachhjdaaGreatDoorMAAt
import Derived.Test.YtoacdccachhjdaaGreatDoorMAAl
import Derived.Laws.ResultCell
import Derived.Test.YtoacdccachhjdaaGreatDoorMAAj
import Derived.Test.YtoacdccachhjdaaGreatDoorMAAo
namespace Wt
open Go Go.RowKit Go.Maps Go.Proofs Fm

/-- The model of the example of the chapter. -/
def exM : Mo := ⟨3, [3#64], [[3#64, 3#64, 4#64], [1#64, 6#64, 6#64]]⟩
def RetM (M : Mo) (e : Ending) (w w' : World) : Prop := ∃ va ra vc rc, e = .returned (.agg #[.int .i64 M.worlds, .slice va M.val.length vc, .slice ra M.rel.length rc]) ∧ RM w' va ra M ∧ Ext w w'
theorem RU.lit (w : World) (l : List (BitVec 64)) (cs : Array Value) (T : Nat) (h : cs = (l.map uv).toArray) (hl : l.length ≤ 1000) : RU (w.alloc (.cells cs T)) (some ⟨w.heap.size, 0, none⟩) l := by
  subst h
  refine ⟨by omega, fun k hk => ⟨w.heap.size, 0, rfl, ?_⟩⟩
  rw [nth_eq _ _ hk]
  simp [hk, uv]
theorem results_cell_one {fn : Func} {p : Tmp} {ty : TypeId} (h : fn.results = #[.cell p ty]) (tmps : Array Value) (P : Program) (w : World) :
    (results fn tmps).run P w = ((asAddr (tmps.getD p undef)).run P w).andThen fun a w₁ => ((loadVar ty a).run P w₁).andThen fun v w₂ => .ok v w₂ := by
  simp only [results, h]
  simp [Sem.run_bind, Result.andThen]
  cases (asAddr (tmps[p]?.getD undef)).run P w with
  | ok a w => dsimp only; cases (loadVar ty a).run P w <;> rfl
  | halt h w => rfl
/-- Does a formula hold in just these worlds of the example? -/
def hb (f : List Nd) (s : BitVec 64) : Bool := reqErr exM f == 0 && holdsOf exM f == s
/-! The examples. -/
def exP : List Nd := fB ⟨3, 0, 0, 0, 0, 0⟩ []
def exT : List Nd := fB ⟨1, 0, 0, 0, 0, 0⟩ []
def exN : List Nd := fB ⟨4, 0, 0, 0, 0, 0⟩ [exP]
theorem ex1 : hb (fB ⟨9, 0, 0, 0, 0, 0⟩ [exP]) 3#64 = true := by decide +kernel
theorem ex2 : hb (fB ⟨9, 1, 0, 0, 0, 0⟩ [exP]) 1#64 = true := by decide +kernel
theorem ex3 : hb (fB ⟨11, 0, 0, 3, 0, 0⟩ [exP]) 1#64 = true := by decide +kernel
theorem ex4 : hb (fB ⟨12, 0, 0, 3, 0, 0⟩ [exP]) 3#64 = true := by decide +kernel
theorem ex5 : hb (fB ⟨13, 0, 0, 3, 0, 0⟩ [exT, exP]) 0#64 = true := by decide +kernel
theorem ex6 : hb (fB ⟨13, 0, 0, 3, 0, 0⟩ [exP, exP]) 7#64 = true := by decide +kernel
theorem ex7 : hb (fB ⟨10, 1, 0, 0, 0, 0⟩ [exN]) 6#64 = true := by decide +kernel
theorem ex8 : atOf exM 1 exP = true ∧ atErr exM 1 exP = 0 := by decide +kernel
theorem ex9 : validOf exM (fB ⟨6, 0, 0, 0, 0, 0⟩ [exP, exN]) = true ∧ reqErr exM (fB ⟨6, 0, 0, 0, 0, 0⟩ [exP, exN]) = 0 := by decide +kernel
theorem ex10 : reqErr exM (fB ⟨15, 0, 0, 0, 0, 0⟩ [exP]) = 10 := by decide +kernel
theorem ex11 : reqErr exM (fB ⟨9, 2, 0, 0, 0, 0⟩ [exP]) = 2 := by decide +kernel
end Wt

/- Walk: wittinglaw17.awake (printed by gen_lawb.py). -/
namespace Wt
open Go Go.RowKit Go.Maps Go.Proofs Fm

def exC5 : List Nd := fB ⟨13, 0, 0, 3, 0, 0⟩ [exT, exP]
def exC6 : List Nd := fB ⟨13, 0, 0, 3, 0, 0⟩ [exP, exP]
def exQ7 : List Nd := fB ⟨10, 1, 0, 0, 0, 0⟩ [exN]
def exO : List Nd := fB ⟨6, 0, 0, 0, 0, 0⟩ [exP, exN]
def exK0 : List Nd := fB ⟨9, 0, 0, 0, 0, 0⟩ [exP]
def exK1 : List Nd := fB ⟨9, 1, 0, 0, 0, 0⟩ [exP]
def exK2 : List Nd := fB ⟨9, 2, 0, 0, 0, 0⟩ [exP]
def exE3 : List Nd := fB ⟨11, 0, 0, 3, 0, 0⟩ [exP]
def exD3 : List Nd := fB ⟨12, 0, 0, 3, 0, 0⟩ [exP]
def exS0 : List Nd := fB ⟨15, 0, 0, 0, 0, 0⟩ [exP]
theorem RM.ext' {w w' : World} {va ra : Option Addr} {M : Mo} (r : RM w va ra M) (h : Ext w w') : RM w' va ra M := RM.ext h r
end Wt

/- Walks: wittingref13.Few, wittinglaw17.few. -/
namespace Wt
open Go Go.RowKit Go.Maps Go.Proofs Fm

def RetB (e : Ending) (w w' : World) : Prop := ∃ b, e = .returned (.bool b) ∧ Ext w w'
set_option maxRecDepth 20000 in
set_option maxHeartbeats 2000000 in
theorem r13Few_any (M : Mo) (va ra : Option Addr) (vc rc : Nat) (n : Int) (w : World) (hm : RM w va ra M) :
    Calls Tryz.prog 23 #[.agg #[.int .i64 M.worlds, .slice va M.val.length vc, .slice ra M.rel.length rc], .int .i64 n] w fun e w' => RetB e w w' := by
  obtain ⟨W, V, R⟩ := M
  have hE0 := (Ext.refl w).alloc (.cells #[.int .i64 W, .slice va V.length vc, .slice ra R.length rc] 28)
  have hR : RR _ ra R := (hm.ext hE0).rel
  obtain ⟨m0, m1, m2⟩ := MoBox.new w W V R va vc ra rc 28
  have hvl := hm.val.len
  have hrl := hm.rel.len
  dsimp only at hvl hrl m0 m1 m2 ⊢
  have HE := Lib.hid hE0
  have HR := Lib.hid hR
  clear hE0 hm hR
  by_cases hc : (n < W ∧ W ≤ 64) ∨ 20 < V.length ∨ 10 < R.length
  · go_enter Tryz.func23, Tryz.ntmps23
    go_wp2
    all_goals first
      | (go_ret; exact ⟨_, rfl, HE.out⟩)
      | (exfalso; omega)
  · have e3 : decide ((20 : Int) < (V.length : Int)) = false := by simp; omega
    have e4 : decide ((10 : Int) < (R.length : Int)) = false := by simp; omega
    by_cases h1 : n < W
    · have e1 : decide (n < W) = true := by simpa using h1
      have e2 : decide (W ≤ 64) = false := by simp; omega
      clear hc h1
      go_enter Tryz.func23, Tryz.ntmps23
      go_wp2
      go_loop [5] (fun i => ∃ k : Nat, k ≤ R.length ∧ i = .int .i64 k) (fun i => R.length - (intOf i).toNat)
      case atStart => exact ⟨0, Nat.zero_le _, rfl⟩
      case round =>
        obtain ⟨k, hk, rfl⟩ := hrel
        by_cases hlt : k < R.length
        · obtain ⟨b, off, a', c', rfl, hb, hc', hu⟩ := HR.out.get hlt
          have hul := hu.len
          by_cases hq : 70 < (nth R k).length
          · go_wp2
            go_ret
            exact ⟨_, rfl, HE.out⟩
          · go_wp2
            go_round
            case rel => exact ⟨k + 1, hlt, by go_num⟩
            case measure => simp [intOf]; omega
        · go_wp2
          go_ret
          exact ⟨_, rfl, HE.out⟩
    · have e1 : decide (n < W) = false := by simp; omega
      clear hc h1
      go_enter Tryz.func23, Tryz.ntmps23
      go_wp2
      go_loop [5] (fun i => ∃ k : Nat, k ≤ R.length ∧ i = .int .i64 k) (fun i => R.length - (intOf i).toNat)
      case atStart => exact ⟨0, Nat.zero_le _, rfl⟩
      case round =>
        obtain ⟨k, hk, rfl⟩ := hrel
        by_cases hlt : k < R.length
        · obtain ⟨b, off, a', c', rfl, hb, hc', hu⟩ := HR.out.get hlt
          have hul := hu.len
          by_cases hq : 70 < (nth R k).length
          · go_wp2
            go_ret
            exact ⟨_, rfl, HE.out⟩
          · go_wp2
            go_round
            case rel => exact ⟨k + 1, hlt, by go_num⟩
            case measure => simp [intOf]; omega
        · go_wp2
          go_ret
          exact ⟨_, rfl, HE.out⟩
/-- Whether the formulas are small, and more. -/
def RetF (os : List (List Nd)) (e : Ending) (w w' : World) : Prop := ∃ b, e = .returned (.bool b) ∧ Ext w w' ∧ (b = true → ∀ j, j < os.length → (nth os j).length ≤ 60)
end Wt

/- Walks: wittingref13.Members, squeeze. -/
namespace Wt
open Go Go.RowKit Go.Maps Go.Proofs Fm

theorem filter_succ (s : BitVec 64) (k : Nat) : (List.range (k + 1)).filter (bt s) = (List.range k).filter (bt s) ++ if bt s k then [k] else [] := by
  rw [List.range_succ, List.filter_append]
  congr 1
  cases h : bt s k <;> simp [h]
theorem hasW_nat (s : BitVec 64) (k : Nat) : hasW s (k : Int) = bt s k := by simp [hasW]
/-- What is returned for a list of numbers that the call has made by appending. -/
theorem RetI_of {w wr : World} {l : List Int} {v : Value} (h : GL w 3 iv l v wr) (hl : l.length ≤ 140737488355328) : ∃ a c, v = .slice a l.length c ∧ (∀ w'', Agree w.heap.size wr w'' → RI w'' a l) := by
  obtain ⟨a, c, hv, -⟩ := RI_of_own h.own hl
  refine ⟨a, c, hv, fun w'' ha => ?_⟩
  obtain ⟨a', c', hv', hu'⟩ := RI_of_own (own_agree h.own ha) hl
  rw [hv] at hv'
  simp only [Value.slice.injEq] at hv'
  obtain ⟨rfl, -, -⟩ := hv'
  exact hu'
/-- The rounds of Members. -/
def MbE (w : World) (s : BitVec 64) (k : Nat) (v : Value) (wr : World) : Prop := GL w 3 iv (natI ((List.range k).filter (bt s))) v wr
theorem natI_len (l : List Nat) : (natI l).length = l.length := by simp [natI]
theorem filter_len (s : BitVec 64) (k : Nat) : ((List.range k).filter (bt s)).length ≤ k := by
  have := List.length_filter_le (bt s) (List.range k)
  simpa using this
set_option maxRecDepth 20000 in
set_option maxHeartbeats 2000000 in
theorem r13Members_any (s : BitVec 64) (w : World) :
    Calls Tryz.prog 115 #[.int .u64 (un s)] w fun e w' => RetI (natI (memL s)) e w w' := by
  obtain ⟨i0, hi1, hz0, hz1, hz2⟩ := info_parts int_info
  go_enter Tryz.func115, Tryz.ntmps115
  go_wp2
  go_loopw [3, 4] (fun v i wr => ∃ k : Nat, k ≤ 64 ∧ i = .int .i64 (k : Int) ∧ MbE w s k v wr) (fun _ i _ => 64 - (intOf i).toNat)
  case atStart => exact ⟨0, Nat.zero_le _, rfl, Ext.refl _, World.ownsRow_nil _ _ _ _⟩
  case round =>
    obtain ⟨k, hk, rfl, hM⟩ := hrel
    have hM : GL w 3 iv (natI ((List.range k).filter (bt s))) u3 wr := hM
    have HM := Lib.hid hM
    by_cases hlt : k < 64
    · cases hb : bt s k
      · have HB := Lib.hid hb
        have hn : (List.range (k + 1)).filter (bt s) = (List.range k).filter (bt s) := by rw [filter_succ, hb]; simp
        have HN := Lib.hid hn
        clear hM hb hn
        go_wp2_with (go_at_call 155; refine (r13Has_any s (k : Int) _).mono ?_; rintro _ _ ⟨rfl, rfl⟩; rw [hasW_nat, HB.out])
        go_roundw
        case rel => exact ⟨k + 1, hlt, by go_num, by show GL _ _ _ _ _ _; rw [HN.out]; exact HM.out⟩
        case measure => simp [intOf]; omega
      · have HB := Lib.hid hb
        have hn : natI ((List.range (k + 1)).filter (bt s)) = natI ((List.range k).filter (bt s)) ++ [(k : Int)] := by rw [filter_succ, hb]; simp [natI]
        have HN := Lib.hid hn
        have hll := natI_len ((List.range k).filter (bt s))
        have hlk := filter_len s k
        have HO : Hid (∀ o, (wr.alloc o).ownsRow w.heap.size 3 1 u3 (natI ((List.range k).filter (bt s))).length ((natI ((List.range k).filter (bt s))).map iv)) := fun o => (HM.out.ext' ((Ext.refl wr).alloc o)).own
        have HPA : Hid (∀ o, GL w 3 iv (natI ((List.range k).filter (bt s))) u3 (wr.alloc o)) := fun o => HM.out.ext' ((Ext.refl wr).alloc o)
        have HONE : Hid (∀ u ∈ [Value.int .i64 (k : Int)], u.oneCell' = true) := fun u hu => by
          rcases List.mem_singleton.1 hu with rfl
          rfl
        have hsz1 : w.heap.size ≤ wr.heap.size := hM.e.size
        generalize hF : natI ((List.range k).filter (bt s)) = F at *
        clear hM hb hn hF
        go_wp2_with (first | (go_at_call 155; refine (r13Has_any s (k : Int) _).mono ?_; rintro _ _ ⟨rfl, rfl⟩; rw [hasW_nat, HB.out]) | (at_builtin; refine wpList_append_lies _ rfl _ _ 22 rfl w.heap.size 3 i0 _ 1 8 Tryz.underlying22 hi1 hz0 hz1 hz2 rfl (by decide) u3 F.length _ rfl (HO.out _) ⟨wr.heap.size, 0, none⟩ 1 1 [.int .i64 (k : Int)] rfl rfl (cell_one_new _ _ _) HONE.out (by decide) (by unfold maxLen; omega) (by omega) (Nat.le_trans hsz1 (by simp)) (wr.heap.size + 1) (by simp) ?_; intro gx cap W1 hown hgrow hat hlt2; have hpush := (HPA.out _).push (x := (k : Int)) hown hgrow; have HPU := Lib.hid hpush; clear hpush hown hgrow hat))
        go_roundw
        case rel => exact ⟨k + 1, hlt, by go_num, by show GL _ _ _ _ _ _; rw [HN.out, ← hll]; exact HPU.out⟩
        case measure => simp [intOf]; omega
    · obtain rfl : k = 64 := by omega
      have hlen := memL_len s
      obtain ⟨a, c, hv, hu⟩ := RetI_of (show GL w 3 iv (natI (memL s)) u3 wr from hM) (by rw [natI_len]; omega)
      have HU := Lib.hid hu
      have HV := Lib.hid hv
      clear hM hu hv hlen
      go_wp2
      go_ret
      exact ⟨a, c, by rw [HV.out]; rfl, HU.out, HM.out.e⟩
theorem pullK_yes {s : BitVec 64} {ws : List Nat} {k : Nat} (h : bt s (nth ws k) = true) : pullK s ws (k + 1) = pullK s ws k ||| 1#64 <<< k := by
  show pullK s ws k ||| ((s >>> nth ws k &&& 1#64) <<< k) = _
  have := bit_eq1 (s := s) (nth ws k)
  rw [h, beq_iff_eq] at this
  rw [this]
theorem pullK_no {s : BitVec 64} {ws : List Nat} {k : Nat} (h : bt s (nth ws k) = false) : pullK s ws (k + 1) = pullK s ws k := by
  show pullK s ws k ||| ((s >>> nth ws k &&& 1#64) <<< k) = _
  have := bit_eq0 (s := s) (nth ws k)
  rw [h, Bool.not_false, beq_iff_eq] at this
  rw [this]; simp
set_option maxRecDepth 20000 in
set_option maxHeartbeats 1000000 in
theorem squeeze_any (s : BitVec 64) (ws : List Nat) (a : Option Addr) (c : Nat) (w : World) (hr : RI w a (natI ws)) :
    Calls Tryz.prog 156 #[.int .u64 (un s), .slice a ws.length c] w fun e w' => e = .returned (.int .u64 (un (pullL s ws))) ∧ w = w' := by
  have hl := hr.len
  have hll : (natI ws).length = ws.length := natI_len ws
  rw [hll] at hl
  have HR := Lib.hid hr
  clear hr
  go_enter Tryz.func156, Tryz.ntmps156
  go_wp2
  go_loop [5, 6] (fun o i => ∃ k : Nat, k ≤ ws.length ∧ i = .int .i64 (k : Int) ∧ o = .int .u64 (un (pullK s ws k))) (fun _ i => ws.length - (intOf i).toNat)
  case atStart => exact ⟨0, Nat.zero_le _, rfl, rfl⟩
  case round =>
    obtain ⟨k, hk, rfl, rfl⟩ := hrel
    by_cases hlt : k < ws.length
    · obtain ⟨b, off, rfl, hb, hc⟩ := HR.out.get (k := k) (by omega)
      rw [nth_natI hlt] at hc
      cases hbt : bt s (nth ws k)
      · have HB := Lib.hid hbt
        have HN := Lib.hid (pullK_no hbt)
        clear hbt
        go_wp2_with (go_at_call 155; refine (r13Has_any s ((nth ws k : Nat) : Int) _).mono ?_; rintro _ _ ⟨rfl, rfl⟩; rw [hasW_nat, HB.out])
        go_round
        case rel => exact ⟨k + 1, hlt, by go_num, by rw [HN.out]⟩
        case measure => simp [intOf]; omega
      · have HB := Lib.hid hbt
        have HN := Lib.hid (pullK_yes hbt)
        clear hbt
        go_wp2_with (go_at_call 155; refine (r13Has_any s ((nth ws k : Nat) : Int) _).mono ?_; rintro _ _ ⟨rfl, rfl⟩; rw [hasW_nat, HB.out])
        go_round
        case rel => exact ⟨k + 1, hlt, by go_num, by rw [HN.out]⟩
        case measure => simp [intOf]; omega
    · obtain rfl : k = ws.length := by omega
      go_wp2
      go_ret
      exact ⟨rfl, rfl⟩
end Wt
