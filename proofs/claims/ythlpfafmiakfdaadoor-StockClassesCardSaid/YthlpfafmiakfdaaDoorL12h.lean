/- The stock's laws: do, where the class is one; piles, opened. -/
import Derived.Test.YthlpfafmiakfdaaDoorPrsu
import Derived.Test.YthlpfafmiakfdaaDoorPstky
namespace Go.Proofs.YthlpfafmiakfdaaDoor.E
set_option linter.unusedSimpArgs false
set_option linter.unusedVariables false
open Go
set_option maxRecDepth 100000
def lpX (l : LP) : AObj × AV := (.tab true BlkK l.xs, .slice 0 0 l.m)
/-- What is known of a class's blocks, and of the law's own. -/
structure Agr (c : Cnf) (k : Nat) (lim : Nat) (s : PS) (l : LP) : Prop where
  good : s.Good
  lm : l.m = s.m
  lle : l.m ≤ l.xs.length
  pile : l.pile = s.pile
  inb : ∀ b ∈ s.pile, inB c k b
  few : s.m ≤ lim
def actA (kd cls b1 b2 : Int) (m : Nat) : AV := .agg [.int .i64 kd, .int .i64 cls, .int .i64 b1, .int .i64 b2, .int .u64 m]
abbrev doP (own : Bool) (c : Cnf) (pl : List PS) (lps : List LP) (k : Nat) (x : List Value × List Value) (l : LP) : List AObj := [.tab own (.int .i64) c.cl, stkC 3 c, .mix k (eqP x.1 x.2) (.slice 9 0 l.m), clsO c, .link 7, .link 8, .gone, .big (FQ (pl.map pileX)), .big (FQ (pl.map mapX)), .tab true BlkK l.xs, .big (RQ k x.1 x.2 (lps.map lpX))]
abbrev doQ (own : Bool) (c : Cnf) (pl : List PS) (lps : List LP) (k : Nat) (x : List Value × List Value) (l : LP) : List AObj := [.tab own (.int .i64) c.cl, stkC 3 c, .mix k (eqP x.1 x.2) (.slice 11 0 l.m), clsO c, .link 12, .link 13, .gone, .gone, .gone, .gone, .big (RQ k x.1 x.2 (lps.map lpX)), .tab true BlkK l.xs, .big (FQ (pl.map pileX)), .big (FQ (pl.map mapX))]
theorem set_at {α : Type} {l : List α} {k : Nat} {s s' : α} (h : l[k]? = some s) : (l.set k s')[k]? = some s' := by
  rw [List.getElem?_set_self (List.getElem?_eq_some_iff.1 h).1]
theorem set_id {α : Type} {l : List α} {k : Nat} {s : α} (h : l[k]? = some s) : l.set k s = l := by
  refine List.ext_getElem? fun i => ?_
  by_cases hi : i = k
  · subst hi; rw [set_at h, h]
  · rw [List.getElem?_set_ne (Ne.symm hi)]
/-- A push to both. -/
theorem do_0 (own : Bool) (c : Cnf) (h : c.Ok) (pl : List PS) (hpl : pl.length = c.cl.length) (lps : List LP) (k : Nat) (s : PS) (hs : pl[k]? = some s) (l : LP) (x : List Value × List Value) (b1 b2 : Int) (m : Nat) (hA : Agr c k 20000 s l) :
    Tri En 11 [cnfA 0 c, .ptr 1 0 0, .slice 2 0 c.cl.length, actA 0 k b1 b2 m] (doP own c pl lps k x l) (.bl true) (doQ own c (pl.set k (pushS c k s (b1, b2))) lps k x (pushL c k l (b1, b2))) := by
  have hk : k < pl.length := (List.getElem?_eq_some_iff.1 hs).1
  have l1 := h.l1
  have hfew := hA.few
  have hlm := hA.lm
  have h1 := rpush_tri own c h k l (b1, b2) hA.lle (by omega)
  have h2 := push_B c h pl hpl k s hs (b1, b2) hA.good.le (by omega)
  rw [pushOk_eq hA.good] at h2
  have h3 := len_B c h (pl.set k (pushS c k s (b1, b2))) (by simp [hpl]) k (pushS c k s (b1, b2)) (set_at hs)
  rw [set_id (set_at hs)] at h3
  have e1 : (pushL c k l (b1, b2)).m = (pushS c k s (b1, b2)).m := by
    obtain ⟨p1, p2, p3⟩ := pushL_le (c := c) (k := k) (b := (b1, b2)) hA.lle
    obtain ⟨q1, q2⟩ := pushS_good (c := c) (k := k) hA.good (b1, b2)
    rw [← LP.len p1, ← q1.len, p3, q2, hA.pile]; rfl
  rw [hA.pile] at h1
  generalize pushL c k l (b1, b2) = l2 at *
  obtain ⟨xs2, m2⟩ := l2
  simp only at e1 h1
  subst e1
  generalize pl.set k (pushS c k s (b1, b2)) = pl' at *
  generalize (pushS c k s (b1, b2)).m = m' at *
  by_cases hin : inB c k (b1, b2) ∧ ((b1, b2) : Blk) ∉ s.pile
  · rw [decide_eq_true hin] at h1 h2
    refine Tri.of Tryd.func11 rfl Tryd.call11 rfl ?_
    refine Goods.fin 2000 [.s 30 (some false) true true, .s 35 (some false) true true, .b true, .k 100 (.of h1), .c (.of h2), .k 219 (.of h3), .s 225 (some true) true true] mixed Tryd.func11 ?_
    show Yes _
    repeat' apply And.intro
    (all_goals first | rfl | assumption | trivial | omega | (simp [-List.getD_eq_getElem?_getD] <;> omega) | (simp (disch := omega) only [w64, wu64] <;> omega) | (simp (disch := omega) [-List.getD_eq_getElem?_getD, List.getD_cons_zero, List.getD_cons_succ, kCast_self, dfl_pair, dfl_int, w64, wu64] <;> omega) | (rw [Bool.eq_iff_iff]; simp (disch := omega) [-List.getD_eq_getElem?_getD, List.getD_cons_zero, List.getD_cons_succ, kCast_self, dfl_pair, dfl_int, w64, wu64] <;> omega) | (simp_all [-List.getD_eq_getElem?_getD] <;> omega))
  · rw [decide_eq_false hin] at h1 h2
    refine Tri.of Tryd.func11 rfl Tryd.call11 rfl ?_
    refine Goods.fin 2000 [.s 30 (some false) true true, .s 35 (some false) true true, .b true, .k 100 (.of h1), .c (.of h2), .k 219 (.of h3), .s 225 (some true) true true] mixed Tryd.func11 ?_
    show Yes _
    repeat' apply And.intro
    (all_goals first | rfl | assumption | trivial | omega | (simp [-List.getD_eq_getElem?_getD] <;> omega) | (simp (disch := omega) only [w64, wu64] <;> omega) | (simp (disch := omega) [-List.getD_eq_getElem?_getD, List.getD_cons_zero, List.getD_cons_succ, kCast_self, dfl_pair, dfl_int, w64, wu64] <;> omega) | (rw [Bool.eq_iff_iff]; simp (disch := omega) [-List.getD_eq_getElem?_getD, List.getD_cons_zero, List.getD_cons_succ, kCast_self, dfl_pair, dfl_int, w64, wu64] <;> omega) | (simp_all [-List.getD_eq_getElem?_getD] <;> omega))
/-- A pop of both. -/
theorem do_1a (own : Bool) (c : Cnf) (h : c.Ok) (pl : List PS) (hpl : pl.length = c.cl.length) (lps : List LP) (k : Nat) (s : PS) (hs : pl[k]? = some s) (l : LP) (x : List Value × List Value) (b1 b2 : Int) (m : Nat) (hA : Agr c k 20000 s l) (h0 : s.m = 0) :
    Tri En 11 [cnfA 0 c, .ptr 1 0 0, .slice 2 0 c.cl.length, actA 1 k b1 b2 m] (doP own c pl lps k x l) (.bl true) (doQ own c pl lps k x l) := by
  have hk : k < pl.length := (List.getElem?_eq_some_iff.1 hs).1
  have l1 := h.l1
  have hlm := hA.lm
  have h2 := pop_B0 c h pl hpl k s hs h0
  rw [set_id hs] at h2
  have h3 := len_B c h pl hpl k s hs
  rw [set_id hs, h0] at h3
  obtain ⟨xs, q⟩ := l
  simp only at hlm
  rw [h0] at hlm
  subst hlm
  refine Tri.of Tryd.func11 rfl Tryd.call11 rfl ?_
  refine Goods.fin 2000 [.s 30 (some false) true true, .s 35 (some false) true true, .b false, .b true, .c (.of h2), .s 126 (some false) true true, .k 219 (.of h3), .s 225 (some true) true true] mixed Tryd.func11 ?_
  show Yes _
  repeat' apply And.intro
  (all_goals first | rfl | assumption | trivial | omega | (simp [-List.getD_eq_getElem?_getD] <;> omega) | (simp (disch := omega) only [w64, wu64] <;> omega) | (simp (disch := omega) [-List.getD_eq_getElem?_getD, List.getD_cons_zero, List.getD_cons_succ, kCast_self, dfl_pair, dfl_int, w64, wu64] <;> omega) | (rw [Bool.eq_iff_iff]; simp (disch := omega) [-List.getD_eq_getElem?_getD, List.getD_cons_zero, List.getD_cons_succ, kCast_self, dfl_pair, dfl_int, w64, wu64] <;> omega) | (simp_all [-List.getD_eq_getElem?_getD] <;> omega))
theorem do_1b (own : Bool) (c : Cnf) (h : c.Ok) (pl : List PS) (hpl : pl.length = c.cl.length) (lps : List LP) (k : Nat) (s : PS) (hs : pl[k]? = some s) (l : LP) (x : List Value × List Value) (b1 b2 : Int) (m : Nat) (hA : Agr c k 20000 s l) (h0 : 0 < s.m) :
    Tri En 11 [cnfA 0 c, .ptr 1 0 0, .slice 2 0 c.cl.length, actA 1 k b1 b2 m] (doP own c pl lps k x l) (.bl true) (doQ own c (pl.set k (popS s)) lps k x ⟨l.xs, l.m - 1⟩) := by
  have hk : k < pl.length := (List.getElem?_eq_some_iff.1 hs).1
  have l1 := h.l1
  have hlm := hA.lm
  have hfew := hA.few
  have hle := hA.lle
  have h2 := pop_B1 c h pl hpl k s hs h0 hA.good.le (by omega)
  have h3 := len_B c h (pl.set k (popS s)) (by simp [hpl]) k (popS s) (set_at hs)
  rw [set_id (set_at hs)] at h3
  have hb : bAt s.zs (s.m - 1) = bAt l.xs (s.m - 1) := by
    have e1 : s.pile[s.m - 1]? = s.zs[s.m - 1]? := List.getElem?_take_of_lt (by omega)
    have e2 : l.pile[s.m - 1]? = l.xs[s.m - 1]? := List.getElem?_take_of_lt (by omega)
    rw [hA.pile] at e2
    simp only [bAt, List.getD_eq_getElem?_getD, ← e1, ← e2]
  have h4 : (popS s).m = s.m - 1 := rfl
  rw [h4] at h3
  rw [hb] at h2
  obtain ⟨xs, q⟩ := l
  simp only at hlm hle hb h2
  subst hlm
  obtain ⟨r, hr⟩ : ∃ r, s.m = r + 1 := ⟨s.m - 1, by omega⟩
  rw [hr] at h2 h3 hle hfew ⊢
  rw [show r + 1 - 1 = r by omega] at h2 h3
  generalize pl.set k (popS s) = pl' at *
  generalize hB : bAt xs r = b at *
  have g1 : xs.getD (IntKind.i64.wrap (((r + 1 : Nat) : Int) - 1)).toNat (0, 0) = b := by
    rw [w64 (by omega) (by omega)]; simpa using hB
  have g2 : (b.1 == (xs.getD ((IntKind.i64.wrap (((r + 1 : Nat) : Int) - 1)).toNat + 0) (dfl BlkK)).1 && (b.2 == (xs.getD ((IntKind.i64.wrap (((r + 1 : Nat) : Int) - 1)).toNat + 0) (dfl BlkK)).2 && true)) = true := by
    rw [Nat.add_zero, show xs.getD (IntKind.i64.wrap (((r + 1 : Nat) : Int) - 1)).toNat (dfl BlkK) = b from g1]; simp
  refine Tri.of Tryd.func11 rfl Tryd.call11 rfl ?_
  refine Goods.fin 2000 [.s 30 (some false) true true, .s 35 (some false) true true, .b false, .b true, .c (.of h2), .s 126 (some true) true true, .s 131 (some true) true true, .s 142 (some true) true true, .k 219 (.of h3), .s 225 (some true) true true] mixed Tryd.func11 ?_
  show Yes _
  repeat' apply And.intro
  all_goals try exact g2
  (all_goals first | rfl | assumption | trivial | omega | (simp [-List.getD_eq_getElem?_getD] <;> omega) | (simp (disch := omega) only [w64, wu64] <;> omega) | (simp (disch := omega) [-List.getD_eq_getElem?_getD, List.getD_cons_zero, List.getD_cons_succ, kCast_self, dfl_pair, dfl_int, w64, wu64] <;> omega) | (rw [Bool.eq_iff_iff]; simp (disch := omega) [-List.getD_eq_getElem?_getD, List.getD_cons_zero, List.getD_cons_succ, kCast_self, dfl_pair, dfl_int, w64, wu64] <;> omega) | (simp_all [-List.getD_eq_getElem?_getD] <;> omega))
/-- Another act. -/
theorem do_4 (own : Bool) (c : Cnf) (h : c.Ok) (pl : List PS) (hpl : pl.length = c.cl.length) (lps : List LP) (k : Nat) (s : PS) (hs : pl[k]? = some s) (l : LP) (x : List Value × List Value) (kd b1 b2 : Int) (m : Nat) (hA : Agr c k 20000 s l) (hkd : ¬ (0 ≤ kd ∧ kd ≤ 3)) :
    Tri En 11 [cnfA 0 c, .ptr 1 0 0, .slice 2 0 c.cl.length, actA kd k b1 b2 m] (doP own c pl lps k x l) (.bl true) (doQ own c pl lps k x l) := by
  have hk : k < pl.length := (List.getElem?_eq_some_iff.1 hs).1
  have l1 := h.l1
  have hlm := hA.lm
  have h3 := len_B c h pl hpl k s hs
  rw [set_id hs, ← hlm] at h3
  refine Tri.of Tryd.func11 rfl Tryd.call11 rfl ?_
  refine Goods.fin 2000 [.s 30 (some false) true true, .s 35 (some false) true true, .b false, .b false, .b false, .b false, .k 219 (.of h3), .s 225 (some true) true true] mixed Tryd.func11 ?_
  show Yes _
  repeat' apply And.intro
  (all_goals first | rfl | assumption | trivial | omega | (simp [-List.getD_eq_getElem?_getD] <;> omega) | (simp (disch := omega) only [w64, wu64] <;> omega) | (simp (disch := omega) [-List.getD_eq_getElem?_getD, List.getD_cons_zero, List.getD_cons_succ, kCast_self, dfl_pair, dfl_int, w64, wu64] <;> omega) | (rw [Bool.eq_iff_iff]; simp (disch := omega) [-List.getD_eq_getElem?_getD, List.getD_cons_zero, List.getD_cons_succ, kCast_self, dfl_pair, dfl_int, w64, wu64] <;> omega) | (simp_all [-List.getD_eq_getElem?_getD] <;> omega))
end Go.Proofs.YthlpfafmiakfdaaDoor.E
