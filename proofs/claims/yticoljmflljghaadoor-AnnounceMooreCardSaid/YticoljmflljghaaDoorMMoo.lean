/- Plain laws: distribution, truth and both introspections, as trees and as sets. -/
import Derived.Test.YticoljmflljghaaDoorMTz
import Derived.Test.YticoljmflljghaaDoorMSam
import Derived.Test.YticoljmflljghaaDoorMAwk
import Derived.Test.YticoljmflljghaaDoorRows
import Derived.Test.YticoljmflljghaaDoorCards
import Derived.Test.YticoljmflljghaaDoorTie
import Derived.Test.YticoljmflljghaaDoorMCkC
import Derived.ProofKit
import Derived.LaidMore
import Derived.SizedLaws
import Derived.SevenTiedAt
namespace Wt
open Go Go.RowKit Go.Proofs Fm

theorem ru_cell {w : World} {b off : Nat} {l : List (BitVec 64)} (h : RU w (some ⟨b, off, none⟩) l) {k : Nat} (hk : k < l.length) : w.cell? ⟨b, off + k, none⟩ = some (.int .u64 (un (nth l k))) := by
  obtain ⟨b', off', e, _, hc⟩ := h.get hk
  simp only [Option.some.injEq, Addr.mk.injEq] at e
  obtain ⟨rfl, rfl, -⟩ := e
  exact hc
theorem imp_all {N : Nat} {a b : BitVec 64} (hb : Sub b (allW N)) (h : ∀ k, k < 64 → k < N → bt a k = true → bt b k = true) : (allW N &&& ~~~ a) ||| b = allW N := bt_ext fun k hk => by
  rw [bt_or, bt_and, bt_not, bt_allW]
  by_cases hn : k < N
  · cases ha : bt a k
    · simp [hk, hn]
    · rw [h k hk hn ha]; simp [hk, hn]
  · have : bt b k = false := by
      cases hc : bt b k
      · rfl
      · have := hb k hk hc
        rw [bt_allW] at this; simp [hn] at this
    simp [hn, this]
section
variable {M : Mo} {N : Nat} (ok : MoOk M N) {q : Nat} (hq : q < M.rel.length)
include ok hq
theorem box_sub {Z : BitVec 64} {k : Nat} (hk : k < 64) (hn : k < N) : bt (relBox (nth M.rel q) Z) k = true ↔ Sub (nth (nth M.rel q) k) Z := by
  rw [bt_agent ok hq Z hk, Bool.and_eq_true, sub_bool]
  simp [hn]
theorem agent_in (Z : BitVec 64) : Sub (relBox (nth M.rel q) Z) (allW N) := box_in (by rw [(row_in ok hq).1]; exact Nat.le_refl _)
theorem lawK (x y : BitVec 64) (_hy : Sub y (allW N)) : (allW N &&& ~~~ relBox (nth M.rel q) ((allW N &&& ~~~ x) ||| y)) ||| ((allW N &&& ~~~ relBox (nth M.rel q) x) ||| relBox (nth M.rel q) y) = allW N := by
  refine imp_all (Sub.and1 (Sub.refl _) |>.or (agent_in ok hq y)) fun k hk hn h1 => ?_
  rw [box_sub ok hq hk hn] at h1
  rw [bt_or, bt_and, bt_not, bt_allW]
  cases h2 : bt (relBox (nth M.rel q) x) k
  · simp [hk, hn]
  · rw [box_sub ok hq hk hn] at h2
    have : bt (relBox (nth M.rel q) y) k = true := (box_sub ok hq hk hn).2 fun u hu hb => by
      have h3 := h1 u hu hb
      rw [bt_or, bt_and, bt_not, h2 u hu hb] at h3
      simpa using h3
    rw [this]; simp
/-- What the law asks of an equivalence. -/
def eqI (r : List (BitVec 64)) (w : Nat) : Nat → Bool := allQ fun x => !bt (nth r w) x || (nth r w == nth r x)
def eqO (r : List (BitVec 64)) (N : Nat) : Nat → Bool := allQ fun w => bt (nth r w) w && eqI r w N
omit ok hq in
theorem eqO_iff {r : List (BitVec 64)} (h : eqO r N N = true) : (∀ w, w < N → bt (nth r w) w = true) ∧ ∀ w x, w < N → x < N → bt (nth r w) x = true → nth r w = nth r x := by
  unfold eqO at h
  rw [allQ_iff] at h
  refine ⟨fun w hw => (Bool.and_eq_true _ _ ▸ h w hw).1, fun w x hw hx hb => ?_⟩
  have h2 := (Bool.and_eq_true _ _ ▸ h w hw).2
  unfold eqI at h2
  rw [allQ_iff] at h2
  have := h2 x hx
  rw [hb] at this
  simpa using this
variable (he : eqO (nth M.rel q) N N = true)
include he
theorem lawT (x : BitVec 64) (hx : Sub x (allW N)) : (allW N &&& ~~~ relBox (nth M.rel q) x) ||| x = allW N := by
  obtain ⟨h1, _⟩ := eqO_iff he
  exact imp_all hx fun k hk hn h => (box_sub ok hq hk hn).1 h k hk (h1 k hn)
theorem law4 (x : BitVec 64) : (allW N &&& ~~~ relBox (nth M.rel q) x) ||| relBox (nth M.rel q) (relBox (nth M.rel q) x) = allW N := by
  obtain ⟨_, h2⟩ := eqO_iff he
  refine imp_all (agent_in ok hq _) fun k hk hn h => (box_sub ok hq hk hn).2 fun u hu hb => ?_
  have hun : u < N := by
    have := (row_in ok hq).2 k hn u hu hb
    rw [bt_allW] at this; simp at this; exact this.2
  rw [box_sub ok hq hu hun, ← h2 k u hn hun hb]
  exact (box_sub ok hq hk hn).1 h
theorem law5 (x : BitVec 64) : (allW N &&& ~~~ (allW N &&& ~~~ relBox (nth M.rel q) x)) ||| relBox (nth M.rel q) (allW N &&& ~~~ relBox (nth M.rel q) x) = allW N := by
  obtain ⟨_, h2⟩ := eqO_iff he
  refine imp_all (agent_in ok hq _) fun k hk hn h => (box_sub ok hq hk hn).2 fun u hu hb => ?_
  have hun : u < N := by
    have := (row_in ok hq).2 k hn u hu hb
    rw [bt_allW] at this; simp at this; exact this.2
  rw [bt_and, bt_not, bt_allW] at h ⊢
  have hneg : bt (relBox (nth M.rel q) x) u = false := by
    cases hc : bt (relBox (nth M.rel q) x) u
    · rfl
    · rw [box_sub ok hq hu hun, ← h2 k u hn hun hb] at hc
      have := (box_sub ok hq hk hn).2 hc
      rw [this] at h; simp at h
  rw [hneg]; simp [hu, hun]
end
/-- A right formula that has all worlds. -/
theorem validT {M : Mo} {N : Nat} (hM : moCheck M = 0) {l : List Nd} {t : Fm} (h : IsF l t) (hs : semT M t = (allW N, true)) (hN : M.worlds.toNat = N) (va ra : Option Addr) (vc rc : Nat) (fa : Option Addr) (fc : Nat) (w : World) (hm : RM w va ra M) (hf : RN w fa l) :
    Calls Tryd.prog 26 #[.agg #[.int .i64 M.worlds, .slice va M.val.length vc, .slice ra M.rel.length rc], .slice fa l.length fc] w fun e w' => RetP (.bool true) 0 e w w' := by
  obtain ⟨h1, h2⟩ := set_sem hM h
  have := valid_any M va ra vc rc fa fc l w hm hf
  have e0 : reqErr M l = 0 := by rw [hs] at h1; simpa using h1
  have e1 : validOf M l = true := by
    unfold validOf
    rw [h2, hs, e0, hN]; simp
  rw [e1, e0] at this
  exact this
/-- The formulas of one agent's axioms, and their sets. -/
structure AxF (M : Mo) (N a : Nat) (f h : List Nd) : Prop where
  iK : Hid (IsF (fB ⟨7, 0, 0, 0, 0, 0⟩ [fB ⟨9, (a : Int), 0, 0, 0, 0⟩ [fB ⟨7, 0, 0, 0, 0, 0⟩ [f, h]], fB ⟨7, 0, 0, 0, 0, 0⟩ [fB ⟨9, (a : Int), 0, 0, 0, 0⟩ [f], fB ⟨9, (a : Int), 0, 0, 0, 0⟩ [h]]]) (.bin 7 0 0 0 (.un 9 a 0 0 (.bin 7 0 0 0 (rt f) (rt h))) (.bin 7 0 0 0 (.un 9 a 0 0 (rt f)) (.un 9 a 0 0 (rt h)))))
  sK : Hid (semT M (.bin 7 0 0 0 (.un 9 a 0 0 (.bin 7 0 0 0 (rt f) (rt h))) (.bin 7 0 0 0 (.un 9 a 0 0 (rt f)) (.un 9 a 0 0 (rt h)))) = (allW N, true))
  iT : Hid (IsF (fB ⟨7, 0, 0, 0, 0, 0⟩ [fB ⟨9, (a : Int), 0, 0, 0, 0⟩ [f], f]) (.bin 7 0 0 0 (.un 9 a 0 0 (rt f)) (rt f)))
  i4 : Hid (IsF (fB ⟨7, 0, 0, 0, 0, 0⟩ [fB ⟨9, (a : Int), 0, 0, 0, 0⟩ [f], fB ⟨9, (a : Int), 0, 0, 0, 0⟩ [fB ⟨9, (a : Int), 0, 0, 0, 0⟩ [f]]]) (.bin 7 0 0 0 (.un 9 a 0 0 (rt f)) (.un 9 a 0 0 (.un 9 a 0 0 (rt f)))))
  i5 : Hid (IsF (fB ⟨7, 0, 0, 0, 0, 0⟩ [fB ⟨4, 0, 0, 0, 0, 0⟩ [fB ⟨9, (a : Int), 0, 0, 0, 0⟩ [f]], fB ⟨9, (a : Int), 0, 0, 0, 0⟩ [fB ⟨4, 0, 0, 0, 0, 0⟩ [fB ⟨9, (a : Int), 0, 0, 0, 0⟩ [f]]]]) (.bin 7 0 0 0 (.un 4 0 0 0 (.un 9 a 0 0 (rt f))) (.un 9 a 0 0 (.un 4 0 0 0 (.un 9 a 0 0 (rt f))))))
  sE : Hid (eqO (nth M.rel a) N N = true → semT M (.bin 7 0 0 0 (.un 9 a 0 0 (rt f)) (rt f)) = (allW N, true) ∧ semT M (.bin 7 0 0 0 (.un 9 a 0 0 (rt f)) (.un 9 a 0 0 (.un 9 a 0 0 (rt f)))) = (allW N, true) ∧ semT M (.bin 7 0 0 0 (.un 4 0 0 0 (.un 9 a 0 0 (rt f))) (.un 9 a 0 0 (.un 4 0 0 0 (.un 9 a 0 0 (rt f))))) = (allW N, true))
/-- A tree has at most as many different trees below it as a list that holds them. -/
theorem fsize_axK {a b : Fm} (q : Int) (ha : fsize a ≤ 60) (hb : fsize b ≤ 60) : fsize (.bin 7 0 0 0 (.un 9 q 0 0 (.bin 7 0 0 0 a b)) (.bin 7 0 0 0 (.un 9 q 0 0 a) (.un 9 q 0 0 b))) ≤ 200 := by
  have := fsize_sub (t := .bin 7 0 0 0 (.un 9 q 0 0 (.bin 7 0 0 0 a b)) (.bin 7 0 0 0 (.un 9 q 0 0 a) (.un 9 q 0 0 b)))
    (L := addT a [] ++ (addT b [] ++ [.bin 7 0 0 0 (.un 9 q 0 0 (.bin 7 0 0 0 a b)) (.bin 7 0 0 0 (.un 9 q 0 0 a) (.un 9 q 0 0 b)), .un 9 q 0 0 (.bin 7 0 0 0 a b), .bin 7 0 0 0 a b, .bin 7 0 0 0 (.un 9 q 0 0 a) (.un 9 q 0 0 b), .un 9 q 0 0 a, .un 9 q 0 0 b])) (fun s hs => by
      simp only [sbt] at hs
      simp only [List.mem_append, List.mem_cons, List.not_mem_nil, or_false]
      rcases hs with h | (h | h | h | h) | h | (h | h) | h | h
      all_goals first
        | exact .inl (sbt_mem h)
        | exact .inr (.inl (sbt_mem h))
        | (right; right; simp [h]))
  simp only [List.length_append, List.length_cons, List.length_nil] at this
  simp only [fsize] at *
  omega
section
variable {M : Mo} {N : Nat} (ok : MoOk M N) {a : Nat} (ha : a < M.rel.length)
include ok ha
omit ok in
theorem sem_know {t : Fm} {s : BitVec 64} (h : semT M t = (s, true)) : semT M (.un 9 (a : Int) 0 0 t) = (relBox (nth M.rel a) s, true) := by
  rw [semT_un _ _ _ _ (by rw [h]), h]
  have hng : ¬ ((M.rel.length : Int) ≤ (a : Int)) := by omega
  simp [valN, hng]
omit ha in
theorem sem_imp {t u : Fm} {s r : BitVec 64} (h : semT M t = (s, true)) (h2 : semT M u = (r, true)) : semT M (.bin 7 0 0 0 t u) = ((allW N &&& ~~~ s) ||| r, true) := by
  have hNt : M.worlds.toNat = N := by rw [ok.worlds]; exact Int.toNat_natCast N
  rw [semT_bin _ _ _ _ (by rw [h]) (by rw [h2]), h, h2]
  simp [valN, hNt]
omit ha in
theorem sem_not {t : Fm} {s : BitVec 64} (h : semT M t = (s, true)) : semT M (.un 4 0 0 0 t) = (allW N &&& ~~~ s, true) := by
  have hNt : M.worlds.toNat = N := by rw [ok.worlds]; exact Int.toNat_natCast N
  rw [semT_un _ _ _ _ (by rw [h]), h]
  simp [valN, hNt]
theorem axF {f h : List Nd} (If : IsF f (rt f)) (Ih : IsF h (rt h)) (Sf : semT M (rt f) = (holdsOf M f, true)) (Sh : semT M (rt h) = (holdsOf M h, true)) (hlf : f.length ≤ 60) (hlh : h.length ≤ 60) : AxF M N a f h := by
  have hR4 := ok.rel
  have zf : fsize (rt f) ≤ 60 := Nat.le_trans If.sz hlf
  have zh : fsize (rt h) ≤ 60 := Nat.le_trans Ih.sz hlh
  have inf : Sub (holdsOf M f) (allW N) := by have := semT_in ok (rt f); rw [Sf] at this; exact this
  have inh : Sub (holdsOf M h) (allW N) := by have := semT_in ok (rt h); rw [Sh] at this; exact this
  have un9 : ∀ t, fsize (.un 9 (a : Int) 0 0 t) ≤ fsize t + 1 := fun t => fsize_un 9 (a : Int) 0 0
  have un4 : ∀ t, fsize (.un 4 0 0 0 t) ≤ fsize t + 1 := fun t => fsize_un 4 0 0 0
  have b7 : ∀ t u, fsize (.bin 7 0 0 0 t u) ≤ fsize t + fsize u + 1 := fun t u => fsize_bin 7 0 0 0
  have kk : ∀ {l t}, IsF l t → fsize t ≤ 190 → IsF (fB ⟨9, (a : Int), 0, 0, 0, 0⟩ [l]) (.un 9 (a : Int) 0 0 t) := fun h1 h2 => isF_un h1 (fok_know a (by omega) h1.fk) (Nat.le_trans (un9 _) (by omega))
  have nn : ∀ {l t}, IsF l t → fsize t ≤ 190 → IsF (fB ⟨4, 0, 0, 0, 0, 0⟩ [l]) (.un 4 0 0 0 t) := fun h1 h2 => isF_un h1 (fok_not h1.fk) (Nat.le_trans (un4 _) (by omega))
  have ii : ∀ {l t m u}, IsF l t → IsF m u → fsize (.bin 7 0 0 0 t u) ≤ 200 → IsF (fB ⟨7, 0, 0, 0, 0, 0⟩ [l, m]) (.bin 7 0 0 0 t u) := fun h1 h2 h3 => isF_bin h1 h2 (fok_imp h1.fk h2.fk) h3 rfl
  have q1 := un9 (rt f)
  have q2 := un9 (rt h)
  have q3 := un9 (.un 9 (a : Int) 0 0 (rt f))
  have q4 := un4 (.un 9 (a : Int) 0 0 (rt f))
  have q5 := un9 (.un 4 0 0 0 (.un 9 (a : Int) 0 0 (rt f)))
  have q6 := b7 (rt f) (rt h)
  have kf := kk If (by omega)
  have s1 := sem_know ha Sf
  have s2 := sem_know ha s1
  have s3 := sem_not ok s1
  refine ⟨Lib.hid (ii (kk (ii If Ih (by omega)) (by omega)) (ii kf (kk Ih (by omega)) (Nat.le_trans (b7 _ _) (by omega))) (fsize_axK _ zf zh)), Lib.hid ?_, Lib.hid (ii kf If (Nat.le_trans (b7 _ _) (by omega))), Lib.hid (ii kf (kk kf (by omega)) (Nat.le_trans (b7 _ _) (by omega))), Lib.hid (ii (nn kf (by omega)) (kk (nn kf (by omega)) (by omega)) (Nat.le_trans (b7 _ _) (by omega))), Lib.hid fun he => ⟨?_, ?_, ?_⟩⟩
  · rw [sem_imp ok (sem_know ha (sem_imp ok Sf Sh)) (sem_imp ok s1 (sem_know ha Sh)), lawK ok ha _ _ inh]
  · rw [sem_imp ok s1 Sf, lawT ok ha he _ inf]
  · rw [sem_imp ok s1 s2, law4 ok ha he]
  · rw [sem_imp ok s3 (sem_know ha s3), law5 ok ha he]
end
end Wt

/- Plain laws of announcements: the sentence of Moore; what a propositional formula leaves. -/
namespace Wt
open Go Go.RowKit Go.Proofs Fm

theorem fB_bad2 {x : Nd} {f g : List Nd} (h : fCheck f ≠ 0) : fB x [f, g] = [] := by
  unfold fB; rw [if_pos (by simp [h])]
/-- It is so, and the agent does not know it. -/
def mooF (a : Int) (f : List Nd) : List Nd := fB ⟨5, 0, 0, 0, 0, 0⟩ [f, fB ⟨4, 0, 0, 0, 0, 0⟩ [fB ⟨9, a, 0, 0, 0, 0⟩ [f]]]
theorem sem_and {M : Mo} {t u : Fm} {s r : BitVec 64} (h : semT M t = (s, true)) (h2 : semT M u = (r, true)) : semT M (.bin 5 0 0 0 t u) = (s &&& r, true) := by
  rw [semT_bin _ _ _ _ (by rw [h]) (by rw [h2]), h, h2]
  simp [valN]
/-- A propositional formula that is announced holds everywhere. -/
theorem prop_up {M : Mo} {f g : List Nd} (hu : upErr M g = 0) (hf : reqErr M f = 0) (hp : fFrags f = 0) (hs : Sub (holdsOf M g) (holdsOf M f)) : semT (upM M g) (rt f) = (allW (upL M g).length, true) := by
  obtain ⟨N, ok, ok2, e1, e2, hlt, hle, hrq⟩ := up_ok hu
  obtain ⟨h1, h2, _, _⟩ := reqErr_ok hf
  have hl64 : (upL M g).length ≤ 64 := Nat.le_trans hle ok.most
  have hF := IsF.of h2
  obtain ⟨s1, s2⟩ := set_sem h1 hF
  obtain ⟨a1, a2⟩ := sem_prop ok hl64 hlt (rt f) (prop_frags h2 hp)
  rw [← e1] at a1 a2
  have hT : (semT M (rt f)).2 = true := by rw [← s1, hf]; rfl
  rw [hT] at a1
  have hall : (semT (upM M g) (rt f)).1 = allW (upL M g).length := by
    refine Sub.antisymm (semT_in ok2 _) fun k hk hb => ?_
    have hkl : k < (upL M g).length := by rw [bt_allW] at hb; simp at hb; exact hb.2
    rw [a2 k hkl, ← s2]
    have hm : nth (upL M g) k ∈ memL (holdsOf M g) := by rw [← e2]; exact nth_mem hkl
    obtain ⟨m1, m2⟩ := mem_memL.1 hm
    exact hs _ m1 m2
  rw [Prod.ext_iff]; exact ⟨hall, a1⟩
theorem moore_law {M : Mo} {N : Nat} (ok : MoOk M N) {a : Nat} (ha : a < M.rel.length) {f : List Nd} (hp : fFrags f = 0) (hl : f.length ≤ 60) (x : Int) (h : afErr M x (mooF a f) = 0) : sucOf M x (mooF a f) = false := by
  obtain ⟨hu, k, p, rfl, hb, hpos, hpl, hnp⟩ := afErr_ok h
  have hq := (upErr_ok hu).1
  by_cases hf : fCheck f = 0
  · have hF := IsF.of hf
    have z1 : fsize (rt f) ≤ 60 := Nat.le_trans hF.sz hl
    have z2 := fsize_un (a := rt f) 9 (a : Int) 0 0
    have z3 := fsize_un (a := .un 9 (a : Int) 0 0 (rt f)) 4 0 0 0
    have z4 := fsize_bin (a := rt f) (b := .un 4 0 0 0 (.un 9 (a : Int) 0 0 (rt f))) 5 0 0 0
    have hr4 := ok.rel
    have hK := isF_un (o := 9) (i := (a : Int)) (e := 0) (q := 0) hF (fok_know a (by omega) hF.fk) (by omega)
    have hN := isF_un (o := 4) (i := 0) (e := 0) (q := 0) hK (fok_not hK.fk) (by omega)
    have hA := isF_bin (o := 5) (i := 0) (e := 0) (q := 0) hF hN (fok_and hF.fk hN.fk) (by omega) rfl
    have hA : IsF (mooF a f) (.bin 5 0 0 0 (rt f) (.un 4 0 0 0 (.un 9 (a : Int) 0 0 (rt f)))) := hA
    obtain ⟨s1, s2⟩ := set_sem ok.check hA
    rw [hq] at s1
    -- the parts have sets
    have hft : (semT M (rt f)).2 = true := by
      cases hc : (semT M (rt f)).2
      · exfalso
        have : (semT M (.bin 5 0 0 0 (rt f) (.un 4 0 0 0 (.un 9 (a : Int) 0 0 (rt f))))).2 = false := by
          simp only [semT, hc, Bool.false_and, Bool.false_eq_true, if_false]
        rw [this] at s1; cases s1
      · rfl
    have hfS : semT M (rt f) = ((semT M (rt f)).1, true) := by rw [Prod.ext_iff]; exact ⟨rfl, hft⟩
    obtain ⟨f1, f2⟩ := set_sem ok.check hF
    have hfq : reqErr M f = 0 := by rw [hft] at f1; simpa using f1
    have hms := sem_and hfS (sem_not ok (sem_know ha hfS))
    have hsub : Sub (holdsOf M (mooF a f)) (holdsOf M f) := by
      rw [s2, hms, f2]
      exact Sub.and1 (Sub.refl _)
    have hup := prop_up hu hfq hp hsub
    obtain ⟨N2, okM, ok2, e1, -, -, -, hrq⟩ := up_ok hu
    have hal2 : a < (upM M (mooF a f)).rel.length := by rw [e1]; simpa [arrM] using ha
    have hA2 := sem_and hup (sem_not ok2 (sem_know hal2 hup))
    obtain ⟨t1, t2⟩ := set_sem ok2.check hA
    unfold sucOf
    rw [if_neg (by simp [h]), hpos, t2, hA2]
    have hpl64 : p < 64 := by have := ok2.most; omega
    have hbox : bt (relBox (nth (upM M (mooF a f)).rel a) (allW (upL M (mooF a f)).length)) p = true := (box_sub ok2 hal2 hpl64 hpl).2 ((row_in ok2 hal2).2 p hpl)
    show bt (_ &&& _) p = false
    rw [bt_and, bt_and, bt_not, hbox]; simp
  · exfalso
    have e : mooF a f = [] := fB_bad2 hf
    rw [e] at hq
    have := (reqErr_ok hq).2.1
    rw [show fCheck ([] : List Nd) = 3 from rfl] at this
    omega
end Wt

/- The walk of AnnounceMoore. -/
namespace Wt
open Go Go.RowKit Go.Maps Go.Proofs Fm

set_option maxRecDepth 20000 in
set_option maxHeartbeats 8000000 in
theorem announceMoore_any (M : Mo) (va ra : Option Addr) (vc rc : Nat) (fa : Option Addr) (fc : Nat) (f : List Nd) (n : Nat) (hn : n < 256) (w : World) (hm : RM w va ra M) (hf : RN w fa f) (hT : Tab w) :
    Calls Tryd.prog 3 #[.agg #[.int .i64 M.worlds, .slice va M.val.length vc, .slice ra M.rel.length rc], .slice fa f.length fc, .int .u8 (n : Int)] w fun e w' => e = .returned (.bool true) ∧ Ext w w' := by
  have hE0 := (Ext.refl w).alloc (.cells #[.int .i64 M.worlds, .slice va M.val.length vc, .slice ra M.rel.length rc] 25)
  have HBX := Lib.hid (MoBox.new w M.worlds M.val M.rel va vc ra rc 25)
  have HF := Lib.hid (hf.ext hE0)
  have HT := Lib.hid (hT.ext hE0)
  have HM := Lib.hid (hm.ext hE0)
  have HE := Lib.hid hE0
  have hrl := hm.rel.len
  have hfl := hf.len
  clear hm hT hE0 hf
  go_enter Tryd.func3, Tryd.ntmps3
  go_wp2_with fail
  generalize w.alloc (.cells #[.int .i64 M.worlds, .slice va M.val.length vc, .slice ra M.rel.length rc] 25) = W0 at *
  refine (awake25_any _ HT.out).mono ?_
  rintro _ w1 ⟨rfl, hX1⟩
  dsimp only
  obtain ⟨m0, m1, m2⟩ := HBX.out.ext hX1
  dsimp only at m0 m1 m2
  go_wp2_with fail
  refine (few25_any M va ra vc rc _ 1 [f] _ (HM.out.ext (hX1.alloc _)) (RNN.one _ fa fc f 26 (HF.out.ext hX1))).mono ?_
  rintro _ w2 ⟨b, rfl, hE2, hsm⟩
  have hX2 := (hX1.alloc (.cells #[.slice fa f.length fc] 26)).trans hE2
  dsimp only
  clear m0 m1 m2
  cases b
  · go_wp2_with fail
    refine (awake25_any _ (HT.out.ext hX2)).mono ?_
    rintro _ w3 ⟨rfl, hE3⟩
    dsimp only
    go_wp2_with fail
    go_ret
    exact ⟨rfl, HE.out.trans (hX2.trans hE3)⟩
  obtain ⟨m0, m1, m2⟩ := HBX.out.ext hX2
  dsimp only at m0 m1 m2
  go_wp2_with fail
  refine (r13Check_any M va ra vc rc _ (HM.out.ext hX2)).mono ?_
  rintro _ w3 ⟨rfl, hE3⟩
  dsimp only
  have hX3 := hX2.trans hE3
  clear m0 m1 m2
  by_cases hM : moCheck M = 0
  rotate_left
  · have hq : (moCheck M != 0) = true := by simpa using hM
    go_wp2_with fail
    refine (awake25_any _ (HT.out.ext hX3)).mono ?_
    rintro _ w4 ⟨rfl, hE4⟩
    dsimp only
    go_wp2_with fail
    go_ret
    exact ⟨rfl, HE.out.trans (hX3.trans hE4)⟩
  have hq : (moCheck M != 0) = false := by simp [hM]
  have hfl60 : f.length ≤ 60 := (hsm trivial).2 0 (by simp)
  clear hsm
  go_wp2_with fail
  refine (frags_any fa fc f _ (HF.out.ext hX3)).mono ?_
  rintro _ w4 ⟨rfl, hE4⟩
  dsimp only
  have hX4 := hX3.trans hE4
  by_cases hp : fFrags f = 0
  rotate_left
  · have hq2 : ((fFrags f : Int) != 0) = true := by simp; omega
    go_wp2_with fail
    refine (awake25_any _ (HT.out.ext hX4)).mono ?_
    rintro _ w5 ⟨rfl, hE5⟩
    dsimp only
    go_wp2_with fail
    go_ret
    exact ⟨rfl, HE.out.trans (hX4.trans hE5)⟩
  have hq2 : ((fFrags f : Int) != 0) = false := by simp [hp]
  obtain ⟨m0, m1, m2⟩ := HBX.out.ext hX4
  dsimp only at m0 m1 m2
  by_cases hl0 : M.rel.length = 0
  · have hq3 : ((M.rel.length : Int) == 0) = true := by simp [hl0]
    clear hl0
    go_wp2_with fail
    refine (awake25_any _ (HT.out.ext hX4)).mono ?_
    rintro _ w5 ⟨rfl, hE5⟩
    dsimp only
    go_wp2_with fail
    go_ret
    exact ⟨rfl, HE.out.trans (hX4.trans hE5)⟩
  have hq3 : ((M.rel.length : Int) == 0) = false := by rw [beq_eq_false_iff_ne]; omega
  obtain ⟨N, ok⟩ := moCheck_ok hM
  have hr4 := ok.rel
  have h64 := ok.most
  have HW := Lib.hid ok.worlds
  have hal : n % M.rel.length < M.rel.length := Nat.mod_lt _ (Nat.pos_of_ne_zero hl0)
  have HMOO : Hid (∀ x : Int, afErr M x (mooF ((n % M.rel.length : Nat) : Int) f) = 0 → sucOf M x (mooF ((n % M.rel.length : Nat) : Int) f) = false) := Lib.hid (moore_law ok hal hp hfl60)
  have hrem : ((n : Int).tmod (M.rel.length : Int)) = ((n % M.rel.length : Nat) : Int) := by rw [Int.tmod_eq_emod_of_nonneg (Int.natCast_nonneg n)]; simp
  have hrem2 : ((n : Int) % (M.rel.length : Int)) = ((n % M.rel.length : Nat) : Int) := by simp
  clear ok
  generalize n % M.rel.length = a at *
  clear m0 m1 m2 hX1 hX2 hX3
  obtain ⟨m0, m1, m2⟩ := HBX.out.ext hX4
  dsimp only at m0 m1 m2
  go_wp2_with fail
  refine (cKnow_any (a : Int) fa fc f _ (HF.out.ext hX4)).mono ?_
  rintro _ w5 ⟨a5, c5, rfl, r5, hE5⟩
  dsimp only
  go_wp2_with fail
  refine (cNot_any a5 c5 _ _ r5).mono ?_
  rintro _ w6 ⟨a6, c6, rfl, r6, hE6⟩
  dsimp only
  go_wp2_with fail
  refine (cAnd_any fa fc f a6 c6 _ _ (HF.out.ext (hX4.trans (hE5.trans hE6))) r6).mono ?_
  rintro _ w7 ⟨a7, c7, rfl, r7, hE7⟩
  dsimp only
  have hX7 := hX4.trans (hE5.trans (hE6.trans hE7))
  have HR7 : Hid (RN w7 a7 (mooF (a : Int) f)) := Lib.hid r7
  rw [show (fB ⟨5, 0, 0, 0, 0, 0⟩ [f, fB ⟨4, 0, 0, 0, 0, 0⟩ [fB ⟨9, (a : Int), 0, 0, 0, 0⟩ [f]]]) = mooF (a : Int) f from rfl]
  generalize mooF (a : Int) f = mo at *
  clear m0 m1 m2 r5 r6 r7
  obtain ⟨m0, m1, m2⟩ := HBX.out.ext hX7
  dsimp only at m0 m1 m2
  go_wp2_with fail
  go_loopw [52] (fun i wr => ∃ k : Nat, k ≤ N ∧ i = .int .i64 (k : Int) ∧ Ext w7 wr) (fun i _ => N - (intOf i).toNat)
  case atStart => exact ⟨0, Nat.zero_le _, rfl, Ext.refl _⟩
  case round =>
    obtain ⟨k, hk, rfl, hEr⟩ := hrel
    by_cases hkN : k < N
    · have hwd : decide ((k : Int) < M.worlds) = true := decide_eq_true (by rw [HW.out]; omega)
      have hwp : (k : Int) < M.worlds := by rw [HW.out]; omega
      have hXr := hX7.trans hEr
      have HER := Lib.hid hEr
      clear m0 m1 m2
      obtain ⟨m0, m1, m2⟩ := HBX.out.ext hXr
      dsimp only at m0 m1 m2
      go_wp2_with fail
      refine (successful_any M va ra vc rc (k : Int) a7 c7 mo _ (HM.out.ext hXr) (HR7.out.ext hEr) (HT.out.ext hXr)).mono ?_
      rintro _ w9 ⟨rfl, hE9⟩
      dsimp only
      by_cases hae : afErr M (k : Int) mo = 0
      · have hse := HMOO.out _ hae
        have hq4 : (afErr M (k : Int) mo == 0) = true := by simp [hae]
        rw [hse]
        clear hae hse
        go_wp2
        go_roundw
        case rel => exact ⟨k + 1, hkN, by go_num, HER.out.trans hE9⟩
        case measure => simp [intOf]; omega
      · have hq4 : (afErr M (k : Int) mo == 0) = false := by simpa using hae
        clear hae
        go_wp2
        go_roundw
        case rel => exact ⟨k + 1, hkN, by go_num, HER.out.trans hE9⟩
        case measure => simp [intOf]; omega
    · have hwd : decide ((k : Int) < M.worlds) = false := decide_eq_false (by rw [HW.out]; omega)
      have hwp : ¬ ((k : Int) < M.worlds) := by rw [HW.out]; omega
      have hEnd := HE.out.trans (hX7.trans hEr)
      go_wp2
      go_ret
      exact ⟨rfl, hEnd⟩
end Wt

/- The law AnnounceMoore returns true at every input, and its arguments read behind the call as they did before; the library's table of TrailingZeros64 lies as the program's text lays it: the tied card. No other condition. -/
namespace Go.Proofs.YticoljmflljghaaDoor
open Go.ChangeShapes Go.WideShapes Go.ChangeAt Go.WideMaps Go.WideElems Go.RowKit

theorem own : ownKnob Tryd.prog.godebug = none := by kernel_rfl
theorem laidOut : laidOutB Tryd.prog = true := by kernel_rfl
theorem door_met (os : Os) (args : Array Value) : laidMetH Tryd.prog [("math/bits.deBruijn64tab", Rows.laid_math_bits_deBruijn64tab)] ((World.doorLaid Tryd.prog 400 os).forCall (fun _ _ => 0) ⟨#[], args, []⟩).memory := by
  rw [MakeChecks.laidMetH_plain _ _ _ (by kernel_rfl)]
  exact laidMet_of_run' 8 (by kernel_rfl) (by kernel_rfl)
set_option maxRecDepth 100000 in
set_option maxHeartbeats 1000000 in
theorem law_lifted (os : Os) (started : os.Started) (H : Type) (enc : TypeId × Value → H) :
    ReturnsInHanded {} Tryd.checked os 3 .any (fun w args => (Rows.announceMooreSpec.pre enc Tryd.prog Tryd.f3 Rows.announceMooreRow.domain false w args ∧ laidMetH Tryd.prog [("math/bits.deBruijn64tab", Rows.laid_math_bits_deBruijn64tab)] w) ∧ sizedMet enc Tryd.prog Tryd.f3 (OpenSpec.ofChange Rows.announceMooreSpec) false w args)
      (Rows.announceMooreSpec.post enc Tryd.prog Tryd.f3 false true false false) := by
  refine returnsInHanded_of_change_and (C := Tryd.checked) (X := fun w _ => laidMetH Tryd.prog [("math/bits.deBruijn64tab", Rows.laid_math_bits_deBruijn64tab)] w) (fun _ _ _ hh h => h.of_heap hh) own started (by kernel_rfl) Tryd.func3
    (ChangeSpec.witness_shaped (enc := enc) (C := Tryd.checked) (os := os) (X := fun w _ => laidMetH Tryd.prog [("math/bits.deBruijn64tab", Rows.laid_math_bits_deBruijn64tab)] w) false (World.doorLaid Tryd.prog 400 os) #[.agg #[.int .i64 0, .slice none 0 0, .slice none 0 0], .slice none 0 0, .int .u8 0] 8 rfl (World.shaped_of_RefB (by kernel_rfl) (by kernel_rfl)) (by kernel_rfl) (by kernel_rfl) (by kernel_rfl) (door_met os _)) ?_
  intro W base args ds gs before hval0 hW _ hsz0 hL _
  have hT := of_laid hL
  have hval : ∀ (j : Nat) t v, Tryd.f3.params[j]? = some t → args[j]? = some v → Value.okWide Tryd.prog W .any base t v := hval0
  have hsz : (DataW.weightsEach Tryd.prog (Tryd.f3.params.toList ++ Rows.announceMooreSpec.plain.varTypes Tryd.prog) (ds ++ gs)).all (· ≤ reachBytes) = true := hsz0
  have hW' := hW
  obtain ⟨p, q, hA0, hV, rfl, hfz, hnd⟩ := hW
  have hA : DataW.TrodAll enc Tryd.prog W 0 (fun _ => true) true Tryd.f3.params.toList args.toList ds p := hA0
  rw [Tryd.params3] at hA hval hsz
  obtain ⟨v0, v1, v2, d0, d1, d2, p0, p1, p2, rfl, rfl, rfl, h0, h1, h2⟩ := trodAll_three hA
  obtain ⟨rfl, rfl⟩ := trodVars_none hV
  have hv0 : Rows.announceMooreSpec.plain.varTypes Tryd.prog = [] := rfl
  rw [hv0] at hsz
  have hz : ∀ n ∈ DataW.weightsEach Tryd.prog [25, 26, 5] [d0, d1, d2], n ≤ reachBytes := fun n hn => by
    have := List.all_eq_true.1 hsz n (by simpa using hn)
    simpa using this
  have k0 := h0
  have k1 := h1
  obtain ⟨M, va, ra, vc, rc, rfl, hm⟩ := Wt.open_mo rfl (hval 0 25 v0 rfl rfl) h0 (fun n hn => hz n (DataW.weights_mem_each (j := 0) rfl rfl n hn))
  obtain ⟨fa, fl, fc, rfl⟩ := okWide_slice Tryd.underlying26 (hval 1 26 v1 rfl rfl)
  obtain ⟨fu, h1'⟩ := h1
  obtain ⟨fa', f, fc', he1, hff⟩ := Wt.open_rn h1' (fun n hn => hz n (DataW.weights_mem_each (j := 1) rfl rfl n hn))
  simp [Value.cells] at he1
  obtain ⟨rfl, rfl, rfl⟩ := he1
  obtain ⟨x, rfl, rfl, rfl, wx⟩ := open_int Tryd.underlying5 (hval 2 5 v2 rfl rfl) h2
  have wx' := wx
  simp only [Lit.wf, Bool.and_eq_true, decide_eq_true_eq] at wx'
  have hx1 : (0 : Int) ≤ x := wx'.1
  have hx2 : x ≤ 255 := wx'.2
  obtain ⟨nb, rfl⟩ := Int.eq_ofNat_of_zero_le hx1
  have hnb : nb < 256 := by omega
  have hl0 : ∀ y ∈ p0, y.block < W.heap.size := fun y hy => by simpa using hW'.lt y (by simp [hy])
  have hl1 : ∀ y ∈ p1, y.block < W.heap.size := fun y hy => by simpa using hW'.lt y (by simp [hy])
  refine (Wt.announceMoore_any M va ra vc rc fa fc f nb hnb W hm hff hT).mono fun e W' he => ?_
  obtain ⟨rfl, hE⟩ := he
  have bel : Below W.heap.size W W' := hE
  refine ⟨_, rfl, ⟨_, _, _, [], p0 ++ (p1 ++ []), [], hW', trodAll_mk1 (shut_bool Tryd.underlying4 true), trodAll_mk3 (Below.trod laidOut (by kernel_rfl) (of_decide_eq_true (by kernel_rfl)) k0 bel hl0) (Below.trod laidOut (by kernel_rfl) (of_decide_eq_true (by kernel_rfl)) k1 bel hl1) (shut_int Tryd.underlying5 wx), rfl, bel.frame _, fun h => by cases h⟩⟩
theorem announceMoore_holds : Rows.AnnounceMooreSaid :=
  OpenClaim.holds_of_wide 3 Tryd.f3 rfl rfl rfl rfl rfl rfl rfl ⟨rfl, rfl, rfl, rfl, rfl⟩ rfl rfl rfl rfl rfl (by kernel_rfl) Tryd.func3 (by kernel_rfl)
    (of_decide_eq_true (by kernel_rfl)) (by unfold Func.isWrapper; first | (rw [if_pos (by decide +kernel)]; kernel_rfl) | (rw [if_neg (by decide +kernel)]; exact ⟨rfl, rfl⟩))
    (fun os started H enc _ => law_lifted os started H enc)
theorem announceMoore_card_holds : Rows.AnnounceMooreCardSaid :=
  Claim7.holds_tied_plain_at .later [] [.data] true (true, "bfc9cf39f4916f8cdba97181050ae874bab3cc17f0a05f25e3554b4a33c5c255") false
    announceMoore_holds (fun _ h => by cases h) (by kernel_rfl) (fun _ h => by cases h) announceMoore_row_tie rfl ⟨rfl, rfl⟩ (by kernel_rfl) rfl
    (fun f fn hf hfn => by
      obtain rfl : f = 3 := Option.some.inj ((show Tryd.prog.funcNamed "witting/wittinglaw25.AnnounceMoore" = some 3 by kernel_rfl).symm.trans hf) |>.symm
      obtain rfl : fn = Tryd.f3 := (Option.some.inj (Tryd.func3.symm.trans hfn)).symm
      exact ⟨by kernel_rfl, fun j t ht => by
        rw [Tryd.params3] at ht
        have hm : t ∈ [25, 26, 5] := by simpa using Array.mem_of_getElem? ht
        have hall : ([25, 26, 5].all fun u => !Tryd.prog.wantsStandIn u) = true := by kernel_rfl
        exact (show Tryd.prog.wantsStandIn t = false by simpa using List.all_eq_true.1 hall t hm)⟩)
    (by kernel_rfl)
#print axioms announceMoore_card_holds
end Go.Proofs.YticoljmflljghaaDoor
