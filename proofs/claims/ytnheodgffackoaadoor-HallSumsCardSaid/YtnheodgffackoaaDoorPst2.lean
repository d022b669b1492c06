/- Several texts in one. -/
import Derived.Test.YtnheodgffackoaaDoorPmvik
/- Package hall: steps, by the moves: written by gstep.py out of XPmvi. -/
namespace Go.Proofs.YtnheodgffackoaaDoor.E
set_option linter.unusedSimpArgs false
set_option linter.unusedVariables false
open Go Go.Proofs.YtnheodgffackoaaDoor.Y
set_option maxRecDepth 100000
set_option maxHeartbeats 4000000
theorem stp_scanning (T : Nat) (Q : List Loc → World → Nat → Prop) (V : HV) (hV : V.Ok) (h : HH) (w st : Nat) (c : Cl) (hp : c.pos < V.n) (hne : c.pos + 1 ≠ V.n) (hu : c.used.length ≤ 1000) (r : Option Rf) (hr : ∀ x, r = some x → x.1 < 256 ∧ x.2.1 < 256 ∧ x.2.2 < 4294967296) (hx : h.m.get ((V.b + 1 + c.pos : Nat) : Int) = (wRef r : Nat)) (U : List Int) (hU : U = c.used ++ hitC w (sideC w c.href) r) (hst : st ≤ 1000000000) : Tri En 14 [.ptr 9 0 0] ((.gone :: hlO V h) ++ .box T [1, 2] Q :: [clN 1 (fnA 74) w st c (fScan 10 11 12 c), recT c, doneT c, scC 2 13 V w c, tagsT c.used]) (.bl false) ((.gone :: hlO V (h.mem (h.m.acc 1 ((V.b + 1 + c.pos : Nat) : Int)))) ++ .box T [1, 2] Q :: [clN 1 (fnA 74) w (st + 1) c (fScan 10 11 12 c), recT c, doneT c, scC 2 14 V w { c with used := U, pos := c.pos + 1 }, .gone, tagsT U]) := by
  have t1 := mv_scanning V hV h w (st + 1) c hp hne hu r hr hx U hU
  obtain ⟨b, n, t, o⟩ := V
  cases o
  all_goals
    refine Tri.of Tryd.func14 rfl Tryd.call14 rfl ?_
    refine Goods.fin 2000 [.c (.of t1)] mixed Tryd.func14 ?_
    show Yes _
    repeat' apply And.intro
    (all_goals first | rfl | assumption | trivial | omega | (simp [-List.getD_eq_getElem?_getD] <;> omega) | (simp (disch := omega) only [w64, wu64] <;> omega) | (simp (disch := omega) [-List.getD_eq_getElem?_getD, List.getD_cons_zero, List.getD_cons_succ, kCast_self, dfl_pair, dfl_int, w64, wu64] <;> omega) | (rw [Bool.eq_iff_iff]; simp (disch := omega) [-List.getD_eq_getElem?_getD, List.getD_cons_zero, List.getD_cons_succ, kCast_self, dfl_pair, dfl_int, w64, wu64] <;> omega) | (simp_all [-List.getD_eq_getElem?_getD] <;> omega))
theorem stp_scanned (T : Nat) (Q : List Loc → World → Nat → Prop) (V : HV) (hV : V.Ok) (h : HH) (w st : Nat) (hw : w < V.n) (c : Cl) (hp : c.pos < V.n) (hne : c.pos + 1 = V.n) (hu : c.used.length ≤ 1000) (r : Option Rf) (hr : ∀ x, r = some x → x.1 < 256 ∧ x.2.1 < 256 ∧ x.2.2 < 4294967296) (hx : h.m.get ((V.b + 1 + c.pos : Nat) : Int) = (wRef r : Nat)) (U : List Int) (hU : U = c.used ++ hitC w (sideC w c.href) r) (hc : c.cp.length = V.R) (hst : st ≤ 1000000000) : Tri En 14 [.ptr 9 0 0] ((.gone :: hlO V h) ++ .box T [1, 2] Q :: [clN 1 (fnA 74) w st c (fScan 10 11 12 c), recT c, doneT c, scC 2 13 V w c, tagsT c.used]) (.bl false) ((.gone :: hlO V (h.mem (h.m.acc 1 ((V.b + 1 + c.pos : Nat) : Int)))) ++ .box T [1, 2] Q :: [clN 1 (fnA 79) w (st + 1) c (fLay 10 11 (.ptr 15 0 0) w { c with tag := leastT U }), recT c, doneT c, .gone, .gone, .gone, layC 2 16 (V.at_ w (sideC w c.href)) 0 c.cp.length, recT c]) := by
  have t1 := mv_scanned V hV h w (st + 1) hw c hp hne hu r hr hx U hU hc
  obtain ⟨b, n, t, o⟩ := V
  cases o
  all_goals
    refine Tri.of Tryd.func14 rfl Tryd.call14 rfl ?_
    refine Goods.fin 2000 [.c (.of t1)] mixed Tryd.func14 ?_
    show Yes _
    repeat' apply And.intro
    (all_goals first | rfl | assumption | trivial | omega | (simp [-List.getD_eq_getElem?_getD] <;> omega) | (simp (disch := omega) only [w64, wu64] <;> omega) | (simp (disch := omega) [-List.getD_eq_getElem?_getD, List.getD_cons_zero, List.getD_cons_succ, kCast_self, dfl_pair, dfl_int, w64, wu64] <;> omega) | (rw [Bool.eq_iff_iff]; simp (disch := omega) [-List.getD_eq_getElem?_getD, List.getD_cons_zero, List.getD_cons_succ, kCast_self, dfl_pair, dfl_int, w64, wu64] <;> omega) | (simp_all [-List.getD_eq_getElem?_getD] <;> omega))
theorem stp_laying (T : Nat) (Q : List Loc → World → Nat → Prop) (V : HV) (hV : V.Ok) (h : HH) (w st : Nat) (c : Cl) (hl : c.cp.length = V.R) (hk : c.laid < V.R) (A : Nat) (hA : A ≤ 100000000) (hst : st ≤ 1000000000) : Tri En 14 [.ptr 9 0 0] ((.gone :: hlO V h) ++ .box T [1, 2] Q :: [clN 1 (fnA 79) w st c (fLay 10 11 (.ptr 12 0 0) w c), recT c, doneT c, layC 2 13 ((A + c.laid : Nat) : Int) c.laid (V.R - c.laid), recT c]) (.bl false) ((.gone :: hlO V (h.mem ((h.m.acc 2 ((A + c.laid : Nat) : Int)).put ((A + c.laid : Nat) : Int) (c.cp.getD c.laid 0)))) ++ .box T [1, 2] Q :: [clN 1 (fnA (if c.laid + 1 = V.R then 82 else 79)) w (st + 1) c (fLay 10 11 (.ptr 12 0 0) w c), recT c, doneT c, layC 2 13 ((A + (c.laid + 1) : Nat) : Int) (c.laid + 1) (V.R - (c.laid + 1)), recT c]) := by
  have t1 := mv_laying V hV h w (st + 1) c hl hk A hA
  by_cases e : c.laid + 1 = V.R
  · rw [if_pos e] at t1 ⊢
    obtain ⟨b, n, t, o⟩ := V
    cases o
    all_goals
      refine Tri.of Tryd.func14 rfl Tryd.call14 rfl ?_
      refine Goods.fin 2000 [.c (.of t1)] mixed Tryd.func14 ?_
      show Yes _
      repeat' apply And.intro
      (all_goals first | rfl | assumption | trivial | omega | (simp [-List.getD_eq_getElem?_getD] <;> omega) | (simp (disch := omega) only [w64, wu64] <;> omega) | (simp (disch := omega) [-List.getD_eq_getElem?_getD, List.getD_cons_zero, List.getD_cons_succ, kCast_self, dfl_pair, dfl_int, w64, wu64] <;> omega) | (rw [Bool.eq_iff_iff]; simp (disch := omega) [-List.getD_eq_getElem?_getD, List.getD_cons_zero, List.getD_cons_succ, kCast_self, dfl_pair, dfl_int, w64, wu64] <;> omega) | (simp_all [-List.getD_eq_getElem?_getD] <;> omega))
  · rw [if_neg e] at t1 ⊢
    obtain ⟨b, n, t, o⟩ := V
    cases o
    all_goals
      refine Tri.of Tryd.func14 rfl Tryd.call14 rfl ?_
      refine Goods.fin 2000 [.c (.of t1)] mixed Tryd.func14 ?_
      show Yes _
      repeat' apply And.intro
      (all_goals first | rfl | assumption | trivial | omega | (simp [-List.getD_eq_getElem?_getD] <;> omega) | (simp (disch := omega) only [w64, wu64] <;> omega) | (simp (disch := omega) [-List.getD_eq_getElem?_getD, List.getD_cons_zero, List.getD_cons_succ, kCast_self, dfl_pair, dfl_int, w64, wu64] <;> omega) | (rw [Bool.eq_iff_iff]; simp (disch := omega) [-List.getD_eq_getElem?_getD, List.getD_cons_zero, List.getD_cons_succ, kCast_self, dfl_pair, dfl_int, w64, wu64] <;> omega) | (simp_all [-List.getD_eq_getElem?_getD] <;> omega))
end Go.Proofs.YtnheodgffackoaaDoor.E

/- Package hall: steps, from box to box: written by gstep2.py out of XPstqi. -/
namespace Go.Proofs.YtnheodgffackoaaDoor.E
set_option linter.unusedSimpArgs false
set_option linter.unusedVariables false
open Go Go.Proofs.YtnheodgffackoaaDoor.Y
set_option maxRecDepth 100000
set_option maxHeartbeats 4000000
theorem lft_scanning (V : HV) (hV : V.Ok) (h : HH) (w st : Nat) (c : Cl) (hp : c.pos < V.n) (hne : c.pos + 1 ≠ V.n) (hu : c.used.length ≤ 1000) (r : Option Rf) (hr : ∀ x, r = some x → x.1 < 256 ∧ x.2.1 < 256 ∧ x.2.2 < 4294967296) (hx : h.m.get ((V.b + 1 + c.pos : Nat) : Int) = (wRef r : Nat)) (U : List Int) (hU : U = c.used ++ hitC w (sideC w c.href) r) (hst : st ≤ 1000000000) {u : Value} {ms : List BMem} {i T : Nat} (hi : ms[i]? = some (u, callOs V w st { c with pc := .scanning })) : Tri En 14 [.raw u] (hlBox V T ms h) (.bl false) (hlClosed V T (ms.set i (u, callOs V w (st + 1) ({ c with used := U, pos := c.pos + 1, tag := leastT U, laid := 0, pc := .scanning }))) ((h.mem (h.m.acc 1 ((V.b + 1 + c.pos : Nat) : Int))))) := by
  have t := stp_scanning T (BoxP (ms.set i (u, []))) V hV h w st c hp hne hu r hr hx U hU hst
  obtain ⟨b, n, t0, o⟩ := V
  cases o
  all_goals
    refine step_lift hi (bl_any _) t rfl ?_
    show Yes _
    repeat' apply And.intro
    (all_goals first | rfl | assumption | trivial | omega | (simp [-List.getD_eq_getElem?_getD] <;> omega) | (simp (disch := omega) only [w64, wu64] <;> omega) | (simp (disch := omega) [-List.getD_eq_getElem?_getD, List.getD_cons_zero, List.getD_cons_succ, kCast_self, dfl_pair, dfl_int, w64, wu64] <;> omega) | (rw [Bool.eq_iff_iff]; simp (disch := omega) [-List.getD_eq_getElem?_getD, List.getD_cons_zero, List.getD_cons_succ, kCast_self, dfl_pair, dfl_int, w64, wu64] <;> omega) | (simp_all [-List.getD_eq_getElem?_getD] <;> omega))
theorem lft_scanned (V : HV) (hV : V.Ok) (h : HH) (w st : Nat) (hw : w < V.n) (c : Cl) (hp : c.pos < V.n) (hne : c.pos + 1 = V.n) (hu : c.used.length ≤ 1000) (r : Option Rf) (hr : ∀ x, r = some x → x.1 < 256 ∧ x.2.1 < 256 ∧ x.2.2 < 4294967296) (hx : h.m.get ((V.b + 1 + c.pos : Nat) : Int) = (wRef r : Nat)) (U : List Int) (hU : U = c.used ++ hitC w (sideC w c.href) r) (hc : c.cp.length = V.R) (hst : st ≤ 1000000000) {u : Value} {ms : List BMem} {i T : Nat} (hi : ms[i]? = some (u, callOs V w st { c with pc := .scanning })) : Tri En 14 [.raw u] (hlBox V T ms h) (.bl false) (hlClosed V T (ms.set i (u, callOs V w (st + 1) ({ c with used := U, pos := c.pos + 1, tag := leastT U, laid := 0, pc := .laying }))) ((h.mem (h.m.acc 1 ((V.b + 1 + c.pos : Nat) : Int))))) := by
  have t := stp_scanned T (BoxP (ms.set i (u, []))) V hV h w st hw c hp hne hu r hr hx U hU hc hst
  obtain ⟨b, n, t0, o⟩ := V
  cases o
  all_goals
    refine step_lift hi (bl_any _) t rfl ?_
    show Yes _
    repeat' apply And.intro
    (all_goals first | rfl | assumption | trivial | omega | (simp [-List.getD_eq_getElem?_getD] <;> omega) | (simp (disch := omega) only [w64, wu64] <;> omega) | (simp (disch := omega) [-List.getD_eq_getElem?_getD, List.getD_cons_zero, List.getD_cons_succ, kCast_self, dfl_pair, dfl_int, w64, wu64] <;> omega) | (rw [Bool.eq_iff_iff]; simp (disch := omega) [-List.getD_eq_getElem?_getD, List.getD_cons_zero, List.getD_cons_succ, kCast_self, dfl_pair, dfl_int, w64, wu64] <;> omega) | (simp_all [-List.getD_eq_getElem?_getD] <;> omega))
theorem lft_laying (V : HV) (hV : V.Ok) (h : HH) (w st : Nat) (c : Cl) (hl : c.cp.length = V.R) (hk : c.laid < V.R) (hA : (V.at_ w (sideC w c.href)) ≤ 100000000) (hst : st ≤ 1000000000) {u : Value} {ms : List BMem} {i T : Nat} (hi : ms[i]? = some (u, callOs V w st { c with pc := .laying })) : Tri En 14 [.raw u] (hlBox V T ms h) (.bl false) (hlClosed V T (ms.set i (u, callOs V w (st + 1) ({ c with laid := c.laid + 1, pc := if c.laid + 1 = V.R then .swing else .laying }))) ((h.mem ((h.m.acc 2 ((V.at_ w (sideC w c.href) + c.laid : Nat) : Int)).put ((V.at_ w (sideC w c.href) + c.laid : Nat) : Int) (c.cp.getD c.laid 0))))) := by
  have t := stp_laying T (BoxP (ms.set i (u, []))) V hV h w st c hl hk (V.at_ w (sideC w c.href)) hA hst
  rcases Classical.em (c.laid + 1 = V.R) with e | e
  · rw [if_pos e] at t
    rw [if_pos e]
    obtain ⟨b, n, t0, o⟩ := V
    cases o
    all_goals
      refine step_lift hi (bl_any _) t rfl ?_
      show Yes _
      repeat' apply And.intro
      (all_goals first | rfl | assumption | trivial | omega | (simp [-List.getD_eq_getElem?_getD] <;> omega) | (simp (disch := omega) only [w64, wu64] <;> omega) | (simp (disch := omega) [-List.getD_eq_getElem?_getD, List.getD_cons_zero, List.getD_cons_succ, kCast_self, dfl_pair, dfl_int, w64, wu64] <;> omega) | (rw [Bool.eq_iff_iff]; simp (disch := omega) [-List.getD_eq_getElem?_getD, List.getD_cons_zero, List.getD_cons_succ, kCast_self, dfl_pair, dfl_int, w64, wu64] <;> omega) | (simp_all [-List.getD_eq_getElem?_getD] <;> omega))
  · rw [if_neg e] at t
    rw [if_neg e]
    obtain ⟨b, n, t0, o⟩ := V
    cases o
    all_goals
      refine step_lift hi (bl_any _) t rfl ?_
      show Yes _
      repeat' apply And.intro
      (all_goals first | rfl | assumption | trivial | omega | (simp [-List.getD_eq_getElem?_getD] <;> omega) | (simp (disch := omega) only [w64, wu64] <;> omega) | (simp (disch := omega) [-List.getD_eq_getElem?_getD, List.getD_cons_zero, List.getD_cons_succ, kCast_self, dfl_pair, dfl_int, w64, wu64] <;> omega) | (rw [Bool.eq_iff_iff]; simp (disch := omega) [-List.getD_eq_getElem?_getD, List.getD_cons_zero, List.getD_cons_succ, kCast_self, dfl_pair, dfl_int, w64, wu64] <;> omega) | (simp_all [-List.getD_eq_getElem?_getD] <;> omega))
end Go.Proofs.YtnheodgffackoaaDoor.E

/- Package hall: steps, by the moves: written by gstep.py out of XPmvj. -/
namespace Go.Proofs.YtnheodgffackoaaDoor.E
set_option linter.unusedSimpArgs false
set_option linter.unusedVariables false
open Go Go.Proofs.YtnheodgffackoaaDoor.Y
set_option maxRecDepth 100000
set_option maxHeartbeats 4000000
theorem stp_tellA (T : Nat) (Q : List Loc → World → Nat → Prop) (V : HV) (hV : V.Ok) (h : HH) (w st : Nat) (hw : w < V.n) (c : Cl) (hst : st ≤ 1000000000) : Tri En 14 [.ptr 9 0 0] ((.gone :: hlO V h) ++ .box T [1, 2] Q :: [clN 1 (fnA 34) w st c fBase]) (.bl false) ((.gone :: hlO V (h.mem ((h.m.acc 2 ((V.b + 1 + w + 2 * V.n : Nat) : Int)).put ((V.b + 1 + w + 2 * V.n : Nat) : Int) c.op.1))) ++ .box T [1, 2] Q :: [clN 1 (fnA 47) w (st + 1) { c with pc := .tellB } fBase]) := by
  have t1 := mv_tellA V hV h w (st + 1) hw c
  obtain ⟨b, n, t, o⟩ := V
  cases o
  all_goals
    refine Tri.of Tryd.func14 rfl Tryd.call14 rfl ?_
    refine Goods.fin 2000 [.c (.of t1)] mixed Tryd.func14 ?_
    show Yes _
    repeat' apply And.intro
    (all_goals first | rfl | assumption | trivial | omega | (simp [-List.getD_eq_getElem?_getD] <;> omega) | (simp (disch := omega) only [w64, wu64] <;> omega) | (simp (disch := omega) [-List.getD_eq_getElem?_getD, List.getD_cons_zero, List.getD_cons_succ, kCast_self, dfl_pair, dfl_int, w64, wu64] <;> omega) | (rw [Bool.eq_iff_iff]; simp (disch := omega) [-List.getD_eq_getElem?_getD, List.getD_cons_zero, List.getD_cons_succ, kCast_self, dfl_pair, dfl_int, w64, wu64] <;> omega) | (simp_all [-List.getD_eq_getElem?_getD] <;> omega))
theorem stp_tellB (T : Nat) (Q : List Loc → World → Nat → Prop) (V : HV) (hV : V.Ok) (h : HH) (w st : Nat) (hw : w < V.n) (c : Cl) (hst : st ≤ 1000000000) : Tri En 14 [.ptr 9 0 0] ((.gone :: hlO V h) ++ .box T [1, 2] Q :: [clN 1 (fnA 47) w st c fBase]) (.bl false) ((.gone :: hlO V (h.mem ((h.m.acc 2 ((V.b + 1 + w + 3 * V.n : Nat) : Int)).put ((V.b + 1 + w + 3 * V.n : Nat) : Int) c.op.2))) ++ .box T [1, 2] Q :: [clN 1 (fnA 55) w (st + 1) { c with pc := .tell } fBase]) := by
  have t1 := mv_tellB V hV h w (st + 1) hw c
  obtain ⟨b, n, t, o⟩ := V
  cases o
  all_goals
    refine Tri.of Tryd.func14 rfl Tryd.call14 rfl ?_
    refine Goods.fin 2000 [.c (.of t1)] mixed Tryd.func14 ?_
    show Yes _
    repeat' apply And.intro
    (all_goals first | rfl | assumption | trivial | omega | (simp [-List.getD_eq_getElem?_getD] <;> omega) | (simp (disch := omega) only [w64, wu64] <;> omega) | (simp (disch := omega) [-List.getD_eq_getElem?_getD, List.getD_cons_zero, List.getD_cons_succ, kCast_self, dfl_pair, dfl_int, w64, wu64] <;> omega) | (rw [Bool.eq_iff_iff]; simp (disch := omega) [-List.getD_eq_getElem?_getD, List.getD_cons_zero, List.getD_cons_succ, kCast_self, dfl_pair, dfl_int, w64, wu64] <;> omega) | (simp_all [-List.getD_eq_getElem?_getD] <;> omega))
theorem stp_tell (T : Nat) (Q : List Loc → World → Nat → Prop) (V : HV) (hV : V.Ok) (h : HH) (w st : Nat) (hw : w < V.n) (hk : h.ask.length = V.n) (c : Cl) (x : Int) (hx : IntKind.u64.wrap (h.ask.getD w 0 + 1) = x) (hst : st ≤ 1000000000) : Tri En 14 [.ptr 9 0 0] ((.gone :: hlO V h) ++ .box T [1, 2] Q :: [clN 1 (fnA 55) w st c fBase]) (.bl false) ((.gone :: hlO V { h with m := ((h.m.acc 2 ((V.b + 1 + w + V.n : Nat) : Int)).put ((V.b + 1 + w + V.n : Nat) : Int) x), ask := h.ask.set w x }) ++ .box T [1, 2] Q :: [clN 1 (fnA 33) w (st + 1) { c with pc := .load, helped := true, left := 2 } fBase]) := by
  have t1 := mv_tell V hV h w (st + 1) hw hk c x hx
  obtain ⟨b, n, t, o⟩ := V
  cases o
  all_goals
    refine Tri.of Tryd.func14 rfl Tryd.call14 rfl ?_
    refine Goods.fin 2000 [.c (.of t1)] mixed Tryd.func14 ?_
    show Yes _
    repeat' apply And.intro
    (all_goals first | rfl | assumption | trivial | omega | (simp [-List.getD_eq_getElem?_getD] <;> omega) | (simp (disch := omega) only [w64, wu64] <;> omega) | (simp (disch := omega) [-List.getD_eq_getElem?_getD, List.getD_cons_zero, List.getD_cons_succ, kCast_self, dfl_pair, dfl_int, w64, wu64] <;> omega) | (rw [Bool.eq_iff_iff]; simp (disch := omega) [-List.getD_eq_getElem?_getD, List.getD_cons_zero, List.getD_cons_succ, kCast_self, dfl_pair, dfl_int, w64, wu64] <;> omega) | (simp_all [-List.getD_eq_getElem?_getD] <;> omega))
theorem stp_last (T : Nat) (Q : List Loc → World → Nat → Prop) (V : HV) (hV : V.Ok) (h : HH) (w st : Nat) (c : Cl) (r : Rf) (hb : r.1 < V.n ∧ r.2.1 < 2 ∧ r.2.2 ≤ V.n) (hr : h.m.get V.b = (wRf r : Nat)) (hst : st ≤ 1000000000) : Tri En 14 [.ptr 9 0 0] ((.gone :: hlO V h) ++ .box T [1, 2] Q :: [clN 1 (fnA 59) w st c fBase]) (.bl false) ((.gone :: hlO V (h.mem (h.m.acc 1 V.b))) ++ .box T [1, 2] Q :: [clN 1 (fnA 62) w (st + 1) { c with pc := .lastA, href := r } (fLast { c with href := r })]) := by
  have t1 := mv_last V hV h w (st + 1) c r hb hr
  obtain ⟨b, n, t, o⟩ := V
  cases o
  all_goals
    refine Tri.of Tryd.func14 rfl Tryd.call14 rfl ?_
    refine Goods.fin 2000 [.c (.of t1)] mixed Tryd.func14 ?_
    show Yes _
    repeat' apply And.intro
    (all_goals first | rfl | assumption | trivial | omega | (simp [-List.getD_eq_getElem?_getD] <;> omega) | (simp (disch := omega) only [w64, wu64] <;> omega) | (simp (disch := omega) [-List.getD_eq_getElem?_getD, List.getD_cons_zero, List.getD_cons_succ, kCast_self, dfl_pair, dfl_int, w64, wu64] <;> omega) | (rw [Bool.eq_iff_iff]; simp (disch := omega) [-List.getD_eq_getElem?_getD, List.getD_cons_zero, List.getD_cons_succ, kCast_self, dfl_pair, dfl_int, w64, wu64] <;> omega) | (simp_all [-List.getD_eq_getElem?_getD] <;> omega))
theorem stp_lastA (T : Nat) (Q : List Loc → World → Nat → Prop) (V : HV) (hV : V.Ok) (h : HH) (w st : Nat) (hw : w < V.n) (c : Cl) (hb : c.href.1 < V.n ∧ c.href.2.1 < 2) (x : Int) (hx : h.m.get ((V.at_ c.href.1 c.href.2.1 + (V.dn w + 1) : Nat) : Int) = x) (hst : st ≤ 1000000000) : Tri En 14 [.ptr 9 0 0] ((.gone :: hlO V h) ++ .box T [1, 2] Q :: [clN 1 (fnA 62) w st c (fLast c)]) (.bl false) ((.gone :: hlO V (h.mem (h.m.acc 1 ((V.at_ c.href.1 c.href.2.1 + (V.dn w + 1) : Nat) : Int)))) ++ .box T [1, 2] Q :: [clN 1 (fnA 68) w (st + 1) { c with pc := .lastB, ans := (x, c.ans.2) } (fLast c)]) := by
  have t1 := mv_lastA V hV h w (st + 1) hw c hb x hx
  obtain ⟨b, n, t, o⟩ := V
  cases o
  all_goals
    refine Tri.of Tryd.func14 rfl Tryd.call14 rfl ?_
    refine Goods.fin 2000 [.c (.of t1)] mixed Tryd.func14 ?_
    show Yes _
    repeat' apply And.intro
    (all_goals first | rfl | assumption | trivial | omega | (simp [-List.getD_eq_getElem?_getD] <;> omega) | (simp (disch := omega) only [w64, wu64] <;> omega) | (simp (disch := omega) [-List.getD_eq_getElem?_getD, List.getD_cons_zero, List.getD_cons_succ, kCast_self, dfl_pair, dfl_int, w64, wu64] <;> omega) | (rw [Bool.eq_iff_iff]; simp (disch := omega) [-List.getD_eq_getElem?_getD, List.getD_cons_zero, List.getD_cons_succ, kCast_self, dfl_pair, dfl_int, w64, wu64] <;> omega) | (simp_all [-List.getD_eq_getElem?_getD] <;> omega))
theorem stp_lastB (T : Nat) (Q : List Loc → World → Nat → Prop) (V : HV) (hV : V.Ok) (h : HH) (w st : Nat) (hw : w < V.n) (c : Cl) (hb : c.href.1 < V.n ∧ c.href.2.1 < 2) (x : Int) (hx : h.m.get ((V.at_ c.href.1 c.href.2.1 + (V.dn w + 2) : Nat) : Int) = x) (hst : st ≤ 1000000000) : Tri En 14 [.ptr 9 0 0] ((.gone :: hlO V h) ++ .box T [1, 2] Q :: [clN 1 (fnA 68) w st c (fLast c)]) (.bl true) ((.gone :: hlO V (h.mem (h.m.acc 1 ((V.at_ c.href.1 c.href.2.1 + (V.dn w + 2) : Nat) : Int)))) ++ .box T [1, 2] Q :: [clN 1 .nilfunc w (st + 1) { c with pc := .over, ans := (c.ans.1, x) } fBase]) := by
  have t1 := mv_lastB V hV h w (st + 1) hw c hb x hx
  obtain ⟨b, n, t, o⟩ := V
  cases o
  all_goals
    refine Tri.of Tryd.func14 rfl Tryd.call14 rfl ?_
    refine Goods.fin 2000 [.c (.of t1)] mixed Tryd.func14 ?_
    show Yes _
    repeat' apply And.intro
    (all_goals first | rfl | assumption | trivial | omega | (simp [-List.getD_eq_getElem?_getD] <;> omega) | (simp (disch := omega) only [w64, wu64] <;> omega) | (simp (disch := omega) [-List.getD_eq_getElem?_getD, List.getD_cons_zero, List.getD_cons_succ, kCast_self, dfl_pair, dfl_int, w64, wu64] <;> omega) | (rw [Bool.eq_iff_iff]; simp (disch := omega) [-List.getD_eq_getElem?_getD, List.getD_cons_zero, List.getD_cons_succ, kCast_self, dfl_pair, dfl_int, w64, wu64] <;> omega) | (simp_all [-List.getD_eq_getElem?_getD] <;> omega))
end Go.Proofs.YtnheodgffackoaaDoor.E

/- Package hall: steps, from box to box: written by gstep2.py out of XPstqj. -/
namespace Go.Proofs.YtnheodgffackoaaDoor.E
set_option linter.unusedSimpArgs false
set_option linter.unusedVariables false
open Go Go.Proofs.YtnheodgffackoaaDoor.Y
set_option maxRecDepth 100000
set_option maxHeartbeats 4000000
theorem lft_tellA (V : HV) (hV : V.Ok) (h : HH) (w st : Nat) (hw : w < V.n) (c : Cl) (hst : st ≤ 1000000000) {u : Value} {ms : List BMem} {i T : Nat} (hi : ms[i]? = some (u, callOs V w st { c with pc := .tellA })) : Tri En 14 [.raw u] (hlBox V T ms h) (.bl false) (hlClosed V T (ms.set i (u, callOs V w (st + 1) ({ c with pc := .tellB }))) ((h.mem ((h.m.acc 2 ((V.b + 1 + w + 2 * V.n : Nat) : Int)).put ((V.b + 1 + w + 2 * V.n : Nat) : Int) c.op.1)))) := by
  have t := stp_tellA T (BoxP (ms.set i (u, []))) V hV h w st hw c hst
  obtain ⟨b, n, t0, o⟩ := V
  cases o
  all_goals
    refine step_lift hi (bl_any _) t rfl ?_
    show Yes _
    repeat' apply And.intro
    (all_goals first | rfl | assumption | trivial | omega | (simp [-List.getD_eq_getElem?_getD] <;> omega) | (simp (disch := omega) only [w64, wu64] <;> omega) | (simp (disch := omega) [-List.getD_eq_getElem?_getD, List.getD_cons_zero, List.getD_cons_succ, kCast_self, dfl_pair, dfl_int, w64, wu64] <;> omega) | (rw [Bool.eq_iff_iff]; simp (disch := omega) [-List.getD_eq_getElem?_getD, List.getD_cons_zero, List.getD_cons_succ, kCast_self, dfl_pair, dfl_int, w64, wu64] <;> omega) | (simp_all [-List.getD_eq_getElem?_getD] <;> omega))
theorem lft_tellB (V : HV) (hV : V.Ok) (h : HH) (w st : Nat) (hw : w < V.n) (c : Cl) (hst : st ≤ 1000000000) {u : Value} {ms : List BMem} {i T : Nat} (hi : ms[i]? = some (u, callOs V w st { c with pc := .tellB })) : Tri En 14 [.raw u] (hlBox V T ms h) (.bl false) (hlClosed V T (ms.set i (u, callOs V w (st + 1) ({ c with pc := .tell }))) ((h.mem ((h.m.acc 2 ((V.b + 1 + w + 3 * V.n : Nat) : Int)).put ((V.b + 1 + w + 3 * V.n : Nat) : Int) c.op.2)))) := by
  have t := stp_tellB T (BoxP (ms.set i (u, []))) V hV h w st hw c hst
  obtain ⟨b, n, t0, o⟩ := V
  cases o
  all_goals
    refine step_lift hi (bl_any _) t rfl ?_
    show Yes _
    repeat' apply And.intro
    (all_goals first | rfl | assumption | trivial | omega | (simp [-List.getD_eq_getElem?_getD] <;> omega) | (simp (disch := omega) only [w64, wu64] <;> omega) | (simp (disch := omega) [-List.getD_eq_getElem?_getD, List.getD_cons_zero, List.getD_cons_succ, kCast_self, dfl_pair, dfl_int, w64, wu64] <;> omega) | (rw [Bool.eq_iff_iff]; simp (disch := omega) [-List.getD_eq_getElem?_getD, List.getD_cons_zero, List.getD_cons_succ, kCast_self, dfl_pair, dfl_int, w64, wu64] <;> omega) | (simp_all [-List.getD_eq_getElem?_getD] <;> omega))
theorem lft_tell (V : HV) (hV : V.Ok) (h : HH) (w st : Nat) (hw : w < V.n) (hk : h.ask.length = V.n) (c : Cl) (x : Int) (hx : IntKind.u64.wrap (h.ask.getD w 0 + 1) = x) (hst : st ≤ 1000000000) {u : Value} {ms : List BMem} {i T : Nat} (hi : ms[i]? = some (u, callOs V w st { c with pc := .tell })) : Tri En 14 [.raw u] (hlBox V T ms h) (.bl false) (hlClosed V T (ms.set i (u, callOs V w (st + 1) ({ c with pc := .load, helped := true, left := 2 }))) ({ h with m := ((h.m.acc 2 ((V.b + 1 + w + V.n : Nat) : Int)).put ((V.b + 1 + w + V.n : Nat) : Int) x), ask := h.ask.set w x })) := by
  have t := stp_tell T (BoxP (ms.set i (u, []))) V hV h w st hw hk c x hx hst
  obtain ⟨b, n, t0, o⟩ := V
  cases o
  all_goals
    refine step_lift hi (bl_any _) t rfl ?_
    show Yes _
    repeat' apply And.intro
    (all_goals first | rfl | assumption | trivial | omega | (simp [-List.getD_eq_getElem?_getD] <;> omega) | (simp (disch := omega) only [w64, wu64] <;> omega) | (simp (disch := omega) [-List.getD_eq_getElem?_getD, List.getD_cons_zero, List.getD_cons_succ, kCast_self, dfl_pair, dfl_int, w64, wu64] <;> omega) | (rw [Bool.eq_iff_iff]; simp (disch := omega) [-List.getD_eq_getElem?_getD, List.getD_cons_zero, List.getD_cons_succ, kCast_self, dfl_pair, dfl_int, w64, wu64] <;> omega) | (simp_all [-List.getD_eq_getElem?_getD] <;> omega))
theorem lft_last (V : HV) (hV : V.Ok) (h : HH) (w st : Nat) (c : Cl) (r : Rf) (hb : r.1 < V.n ∧ r.2.1 < 2 ∧ r.2.2 ≤ V.n) (hr : h.m.get V.b = (wRf r : Nat)) (hst : st ≤ 1000000000) {u : Value} {ms : List BMem} {i T : Nat} (hi : ms[i]? = some (u, callOs V w st { c with pc := .last })) : Tri En 14 [.raw u] (hlBox V T ms h) (.bl false) (hlClosed V T (ms.set i (u, callOs V w (st + 1) ({ c with pc := .lastA, href := r }))) ((h.mem (h.m.acc 1 V.b)))) := by
  have t := stp_last T (BoxP (ms.set i (u, []))) V hV h w st c r hb hr hst
  obtain ⟨b, n, t0, o⟩ := V
  cases o
  all_goals
    refine step_lift hi (bl_any _) t rfl ?_
    show Yes _
    repeat' apply And.intro
    (all_goals first | rfl | assumption | trivial | omega | (simp [-List.getD_eq_getElem?_getD] <;> omega) | (simp (disch := omega) only [w64, wu64] <;> omega) | (simp (disch := omega) [-List.getD_eq_getElem?_getD, List.getD_cons_zero, List.getD_cons_succ, kCast_self, dfl_pair, dfl_int, w64, wu64] <;> omega) | (rw [Bool.eq_iff_iff]; simp (disch := omega) [-List.getD_eq_getElem?_getD, List.getD_cons_zero, List.getD_cons_succ, kCast_self, dfl_pair, dfl_int, w64, wu64] <;> omega) | (simp_all [-List.getD_eq_getElem?_getD] <;> omega))
theorem lft_lastA (V : HV) (hV : V.Ok) (h : HH) (w st : Nat) (hw : w < V.n) (c : Cl) (hb : c.href.1 < V.n ∧ c.href.2.1 < 2) (x : Int) (hx : h.m.get ((V.at_ c.href.1 c.href.2.1 + (V.dn w + 1) : Nat) : Int) = x) (hst : st ≤ 1000000000) {u : Value} {ms : List BMem} {i T : Nat} (hi : ms[i]? = some (u, callOs V w st { c with pc := .lastA })) : Tri En 14 [.raw u] (hlBox V T ms h) (.bl false) (hlClosed V T (ms.set i (u, callOs V w (st + 1) ({ c with pc := .lastB, ans := (x, c.ans.2) }))) ((h.mem (h.m.acc 1 ((V.at_ c.href.1 c.href.2.1 + (V.dn w + 1) : Nat) : Int))))) := by
  have t := stp_lastA T (BoxP (ms.set i (u, []))) V hV h w st hw c hb x hx hst
  obtain ⟨b, n, t0, o⟩ := V
  cases o
  all_goals
    refine step_lift hi (bl_any _) t rfl ?_
    show Yes _
    repeat' apply And.intro
    (all_goals first | rfl | assumption | trivial | omega | (simp [-List.getD_eq_getElem?_getD] <;> omega) | (simp (disch := omega) only [w64, wu64] <;> omega) | (simp (disch := omega) [-List.getD_eq_getElem?_getD, List.getD_cons_zero, List.getD_cons_succ, kCast_self, dfl_pair, dfl_int, w64, wu64] <;> omega) | (rw [Bool.eq_iff_iff]; simp (disch := omega) [-List.getD_eq_getElem?_getD, List.getD_cons_zero, List.getD_cons_succ, kCast_self, dfl_pair, dfl_int, w64, wu64] <;> omega) | (simp_all [-List.getD_eq_getElem?_getD] <;> omega))
theorem lft_lastB (V : HV) (hV : V.Ok) (h : HH) (w st : Nat) (hw : w < V.n) (c : Cl) (hb : c.href.1 < V.n ∧ c.href.2.1 < 2) (x : Int) (hx : h.m.get ((V.at_ c.href.1 c.href.2.1 + (V.dn w + 2) : Nat) : Int) = x) (hst : st ≤ 1000000000) {u : Value} {ms : List BMem} {i T : Nat} (hi : ms[i]? = some (u, callOs V w st { c with pc := .lastB })) : Tri En 14 [.raw u] (hlBox V T ms h) (.bl true) (hlClosed V T (ms.set i (u, callOs V w (st + 1) ({ c with pc := .over, ans := (c.ans.1, x) }))) ((h.mem (h.m.acc 1 ((V.at_ c.href.1 c.href.2.1 + (V.dn w + 2) : Nat) : Int))))) := by
  have t := stp_lastB T (BoxP (ms.set i (u, []))) V hV h w st hw c hb x hx hst
  obtain ⟨b, n, t0, o⟩ := V
  cases o
  all_goals
    refine step_lift hi (bl_any _) t rfl ?_
    show Yes _
    repeat' apply And.intro
    (all_goals first | rfl | assumption | trivial | omega | (simp [-List.getD_eq_getElem?_getD] <;> omega) | (simp (disch := omega) only [w64, wu64] <;> omega) | (simp (disch := omega) [-List.getD_eq_getElem?_getD, List.getD_cons_zero, List.getD_cons_succ, kCast_self, dfl_pair, dfl_int, w64, wu64] <;> omega) | (rw [Bool.eq_iff_iff]; simp (disch := omega) [-List.getD_eq_getElem?_getD, List.getD_cons_zero, List.getD_cons_succ, kCast_self, dfl_pair, dfl_int, w64, wu64] <;> omega) | (simp_all [-List.getD_eq_getElem?_getD] <;> omega))
end Go.Proofs.YtnheodgffackoaaDoor.E
