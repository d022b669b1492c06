/- Several texts in one. -/
import Derived.Test.YtnheodgffackoaaDoorPmvik
/- Package hall: steps, by the moves: written by gstep.py out of XPmvb. -/
namespace Go.Proofs.YtnheodgffackoaaDoor.E
set_option linter.unusedSimpArgs false
set_option linter.unusedVariables false
open Go Go.Proofs.YtnheodgffackoaaDoor.Y
set_option maxRecDepth 100000
set_option maxHeartbeats 4000000
theorem stp_load (T : Nat) (Q : List Loc → World → Nat → Prop) (V : HV) (hV : V.Ok) (h : HH) (w st : Nat) (c : Cl) (r : Rf) (hr : h.m.get V.b = (wRf r : Nat)) (hst : st ≤ 1000000000) : Tri En 14 [.ptr 9 0 0] ((.gone :: hlO V h) ++ .box T [1, 2] Q :: [clN 1 (fnA 33) w st c fBase]) (.bl false) ((.gone :: hlO V (h.mem (h.m.acc 1 V.b))) ++ .box T [1, 2] Q :: [clN 1 (fnA 45) w (st + 1) { c with pc := .hold, href := r } (fHold { c with href := r })]) := by
  have t1 := mv_load V hV h w (st + 1) c r hr
  obtain ⟨b, n, t, o⟩ := V
  cases o
  all_goals
    refine Tri.of Tryd.func14 rfl Tryd.call14 rfl ?_
    refine Goods.fin 2000 [.c (.of t1)] mixed Tryd.func14 ?_
    show Yes _
    repeat' apply And.intro
    (all_goals first | rfl | assumption | trivial | omega | (simp [-List.getD_eq_getElem?_getD] <;> omega) | (simp (disch := omega) only [w64, wu64] <;> omega) | (simp (disch := omega) [-List.getD_eq_getElem?_getD, List.getD_cons_zero, List.getD_cons_succ, kCast_self, dfl_pair, dfl_int, w64, wu64] <;> omega) | (rw [Bool.eq_iff_iff]; simp (disch := omega) [-List.getD_eq_getElem?_getD, List.getD_cons_zero, List.getD_cons_succ, kCast_self, dfl_pair, dfl_int, w64, wu64] <;> omega) | (simp_all [-List.getD_eq_getElem?_getD] <;> omega))
theorem stp_hold (T : Nat) (Q : List Loc → World → Nat → Prop) (V : HV) (hV : V.Ok) (h : HH) (w st : Nat) (hw : w < V.n) (c : Cl) (hst : st ≤ 1000000000) : Tri En 14 [.ptr 9 0 0] ((.gone :: hlO V h) ++ .box T [1, 2] Q :: [clN 1 (fnA 45) w st c (fHold c)]) (.bl false) ((.gone :: hlO V (h.mem ((h.m.acc 2 (V.b + 1 + w)).put (V.b + 1 + w) (wRf c.href : Nat)))) ++ .box T [1, 2] Q :: [clN 1 (fnA 52) w (st + 1) { c with pc := .check } (fHold c)]) := by
  have t1 := mv_hold V hV h w (st + 1) hw c
  obtain ⟨b, n, t, o⟩ := V
  cases o
  all_goals
    refine Tri.of Tryd.func14 rfl Tryd.call14 rfl ?_
    refine Goods.fin 2000 [.c (.of t1)] mixed Tryd.func14 ?_
    show Yes _
    repeat' apply And.intro
    (all_goals first | rfl | assumption | trivial | omega | (simp [-List.getD_eq_getElem?_getD] <;> omega) | (simp (disch := omega) only [w64, wu64] <;> omega) | (simp (disch := omega) [-List.getD_eq_getElem?_getD, List.getD_cons_zero, List.getD_cons_succ, kCast_self, dfl_pair, dfl_int, w64, wu64] <;> omega) | (rw [Bool.eq_iff_iff]; simp (disch := omega) [-List.getD_eq_getElem?_getD, List.getD_cons_zero, List.getD_cons_succ, kCast_self, dfl_pair, dfl_int, w64, wu64] <;> omega) | (simp_all [-List.getD_eq_getElem?_getD] <;> omega))
theorem stp_check (T : Nat) (Q : List Loc → World → Nat → Prop) (V : HV) (hV : V.Ok) (h : HH) (w st : Nat) (c : Cl) (hc : c.href.1 < V.n ∧ c.href.2.1 < 2 ∧ c.href.2.2 ≤ V.n) (hr : h.m.get V.b = (wRf c.href : Nat)) (hst : st ≤ 1000000000) : Tri En 14 [.ptr 9 0 0] ((.gone :: hlO V h) ++ .box T [1, 2] Q :: [clN 1 (fnA 52) w st c (fHold c)]) (.bl false) ((.gone :: hlO V (h.mem (h.m.acc 1 V.b))) ++ .box T [1, 2] Q :: [clN 1 (fnA 58) w (st + 1) { c with pc := .copying, cp := [] } (fCopy 10 c), cpC 2 11 (V.at_ c.href.1 c.href.2.1) V.R 0, .tab true (.int .u64) []]) := by
  have t1 := mv_check V hV h w (st + 1) c hc hr
  obtain ⟨b, n, t, o⟩ := V
  cases o
  all_goals
    refine Tri.of Tryd.func14 rfl Tryd.call14 rfl ?_
    refine Goods.fin 2000 [.c (.of t1)] mixed Tryd.func14 ?_
    show Yes _
    repeat' apply And.intro
    (all_goals first | rfl | assumption | trivial | omega | (simp [-List.getD_eq_getElem?_getD] <;> omega) | (simp (disch := omega) only [w64, wu64] <;> omega) | (simp (disch := omega) [-List.getD_eq_getElem?_getD, List.getD_cons_zero, List.getD_cons_succ, kCast_self, dfl_pair, dfl_int, w64, wu64] <;> omega) | (rw [Bool.eq_iff_iff]; simp (disch := omega) [-List.getD_eq_getElem?_getD, List.getD_cons_zero, List.getD_cons_succ, kCast_self, dfl_pair, dfl_int, w64, wu64] <;> omega) | (simp_all [-List.getD_eq_getElem?_getD] <;> omega))
theorem stp_check_no (T : Nat) (Q : List Loc → World → Nat → Prop) (V : HV) (hV : V.Ok) (h : HH) (w st : Nat) (c : Cl) (hl : 1 ≤ c.left) (hl2 : c.left ≤ 1000) (x : Nat) (hr : h.m.get V.b = x) (hx : x ≠ wRf c.href) (hst : st ≤ 1000000000) : Tri En 14 [.ptr 9 0 0] ((.gone :: hlO V h) ++ .box T [1, 2] Q :: [clN 1 (fnA 52) w st c (fHold c)]) (.bl false) ((.gone :: hlO V (h.mem (h.m.acc 1 V.b))) ++ .box T [1, 2] Q :: [clN 1 (fnA (failF c)) w (st + 1) (failC c) fBase]) := by
  have t1 := mv_check_no V hV h w (st + 1) c hl hl2 x hr hx
  rcases failF_cases c with e | e | e <;> rw [e] at t1 ⊢
  all_goals
    obtain ⟨b, n, t, o⟩ := V
    cases o
    all_goals
      refine Tri.of Tryd.func14 rfl Tryd.call14 rfl ?_
      refine Goods.fin 2000 [.c (.of t1)] mixed Tryd.func14 ?_
      show Yes _
      repeat' apply And.intro
      (all_goals first | rfl | assumption | trivial | omega | (simp [-List.getD_eq_getElem?_getD] <;> omega) | (simp (disch := omega) only [w64, wu64] <;> omega) | (simp (disch := omega) [-List.getD_eq_getElem?_getD, List.getD_cons_zero, List.getD_cons_succ, kCast_self, dfl_pair, dfl_int, w64, wu64] <;> omega) | (rw [Bool.eq_iff_iff]; simp (disch := omega) [-List.getD_eq_getElem?_getD, List.getD_cons_zero, List.getD_cons_succ, kCast_self, dfl_pair, dfl_int, w64, wu64] <;> omega) | (simp_all [-List.getD_eq_getElem?_getD] <;> omega))
theorem stp_copying (T : Nat) (Q : List Loc → World → Nat → Prop) (V : HV) (hV : V.Ok) (h : HH) (w st : Nat) (c : Cl) (hc : c.href.1 < V.n ∧ c.href.2.1 < 2) (hl : c.cp.length < V.R) (x : Int) (hx : h.m.get (V.at_ c.href.1 c.href.2.1 + c.cp.length) = x) (hst : st ≤ 1000000000) : Tri En 14 [.ptr 9 0 0] ((.gone :: hlO V h) ++ .box T [1, 2] Q :: [clN 1 (fnA 58) w st c (fCopy 10 c), cpC 2 11 (V.at_ c.href.1 c.href.2.1) V.R c.cp.length, .tab true (.int .u64) c.cp]) (.bl false) ((.gone :: hlO V (h.mem (h.m.acc 1 (V.at_ c.href.1 c.href.2.1 + c.cp.length)))) ++ .box T [1, 2] Q :: [clN 1 (fnA (if c.cp.length + 1 = V.R then 61 else 58)) w (st + 1) { c with cp := c.cp ++ [x], pc := if c.cp.length + 1 = V.R then .recheck else .copying } (fCopy 10 c), cpC 2 12 (V.at_ c.href.1 c.href.2.1) V.R (c.cp.length + 1), .gone, .tab true (.int .u64) (c.cp ++ [x])]) := by
  have t1 := mv_copying V hV h w (st + 1) c hc hl x hx
  by_cases e : c.cp.length + 1 = V.R
  · rw [if_pos e, if_pos e] at t1 ⊢
    obtain ⟨b, n, t, o⟩ := V
    cases o
    all_goals
      refine Tri.of Tryd.func14 rfl Tryd.call14 rfl ?_
      refine Goods.fin 2000 [.c (.of t1)] mixed Tryd.func14 ?_
      show Yes _
      repeat' apply And.intro
      (all_goals first | rfl | assumption | trivial | omega | (simp [-List.getD_eq_getElem?_getD] <;> omega) | (simp (disch := omega) only [w64, wu64] <;> omega) | (simp (disch := omega) [-List.getD_eq_getElem?_getD, List.getD_cons_zero, List.getD_cons_succ, kCast_self, dfl_pair, dfl_int, w64, wu64] <;> omega) | (rw [Bool.eq_iff_iff]; simp (disch := omega) [-List.getD_eq_getElem?_getD, List.getD_cons_zero, List.getD_cons_succ, kCast_self, dfl_pair, dfl_int, w64, wu64] <;> omega) | (simp_all [-List.getD_eq_getElem?_getD] <;> omega))
  · rw [if_neg e, if_neg e] at t1 ⊢
    obtain ⟨b, n, t, o⟩ := V
    cases o
    all_goals
      refine Tri.of Tryd.func14 rfl Tryd.call14 rfl ?_
      refine Goods.fin 2000 [.c (.of t1)] mixed Tryd.func14 ?_
      show Yes _
      repeat' apply And.intro
      (all_goals first | rfl | assumption | trivial | omega | (simp [-List.getD_eq_getElem?_getD] <;> omega) | (simp (disch := omega) only [w64, wu64] <;> omega) | (simp (disch := omega) [-List.getD_eq_getElem?_getD, List.getD_cons_zero, List.getD_cons_succ, kCast_self, dfl_pair, dfl_int, w64, wu64] <;> omega) | (rw [Bool.eq_iff_iff]; simp (disch := omega) [-List.getD_eq_getElem?_getD, List.getD_cons_zero, List.getD_cons_succ, kCast_self, dfl_pair, dfl_int, w64, wu64] <;> omega) | (simp_all [-List.getD_eq_getElem?_getD] <;> omega))
end Go.Proofs.YtnheodgffackoaaDoor.E

/- Package hall: steps, from box to box: written by gstep2.py out of XPstqb. -/
namespace Go.Proofs.YtnheodgffackoaaDoor.E
set_option linter.unusedSimpArgs false
set_option linter.unusedVariables false
open Go Go.Proofs.YtnheodgffackoaaDoor.Y
set_option maxRecDepth 100000
set_option maxHeartbeats 4000000
theorem lft_load (V : HV) (hV : V.Ok) (h : HH) (w st : Nat) (c : Cl) (r : Rf) (hr : h.m.get V.b = (wRf r : Nat)) (hst : st ≤ 1000000000) {u : Value} {ms : List BMem} {i T : Nat} (hi : ms[i]? = some (u, callOs V w st { c with pc := .load })) : Tri En 14 [.raw u] (hlBox V T ms h) (.bl false) (hlClosed V T (ms.set i (u, callOs V w (st + 1) ({ c with pc := .hold, href := r }))) ((h.mem (h.m.acc 1 V.b)))) := by
  have t := stp_load T (BoxP (ms.set i (u, []))) V hV h w st c r hr hst
  obtain ⟨b, n, t0, o⟩ := V
  cases o
  all_goals
    refine step_lift hi (bl_any _) t rfl ?_
    show Yes _
    repeat' apply And.intro
    (all_goals first | rfl | assumption | trivial | omega | (simp [-List.getD_eq_getElem?_getD] <;> omega) | (simp (disch := omega) only [w64, wu64] <;> omega) | (simp (disch := omega) [-List.getD_eq_getElem?_getD, List.getD_cons_zero, List.getD_cons_succ, kCast_self, dfl_pair, dfl_int, w64, wu64] <;> omega) | (rw [Bool.eq_iff_iff]; simp (disch := omega) [-List.getD_eq_getElem?_getD, List.getD_cons_zero, List.getD_cons_succ, kCast_self, dfl_pair, dfl_int, w64, wu64] <;> omega) | (simp_all [-List.getD_eq_getElem?_getD] <;> omega))
theorem lft_hold (V : HV) (hV : V.Ok) (h : HH) (w st : Nat) (hw : w < V.n) (c : Cl) (hst : st ≤ 1000000000) {u : Value} {ms : List BMem} {i T : Nat} (hi : ms[i]? = some (u, callOs V w st { c with pc := .hold })) : Tri En 14 [.raw u] (hlBox V T ms h) (.bl false) (hlClosed V T (ms.set i (u, callOs V w (st + 1) ({ c with pc := .check }))) ((h.mem ((h.m.acc 2 (V.b + 1 + w)).put (V.b + 1 + w) (wRf c.href : Nat))))) := by
  have t := stp_hold T (BoxP (ms.set i (u, []))) V hV h w st hw c hst
  obtain ⟨b, n, t0, o⟩ := V
  cases o
  all_goals
    refine step_lift hi (bl_any _) t rfl ?_
    show Yes _
    repeat' apply And.intro
    (all_goals first | rfl | assumption | trivial | omega | (simp [-List.getD_eq_getElem?_getD] <;> omega) | (simp (disch := omega) only [w64, wu64] <;> omega) | (simp (disch := omega) [-List.getD_eq_getElem?_getD, List.getD_cons_zero, List.getD_cons_succ, kCast_self, dfl_pair, dfl_int, w64, wu64] <;> omega) | (rw [Bool.eq_iff_iff]; simp (disch := omega) [-List.getD_eq_getElem?_getD, List.getD_cons_zero, List.getD_cons_succ, kCast_self, dfl_pair, dfl_int, w64, wu64] <;> omega) | (simp_all [-List.getD_eq_getElem?_getD] <;> omega))
theorem lft_check (V : HV) (hV : V.Ok) (h : HH) (w st : Nat) (c : Cl) (hc : c.href.1 < V.n ∧ c.href.2.1 < 2 ∧ c.href.2.2 ≤ V.n) (hr : h.m.get V.b = (wRf c.href : Nat)) (hst : st ≤ 1000000000) {u : Value} {ms : List BMem} {i T : Nat} (hi : ms[i]? = some (u, callOs V w st { c with pc := .check })) : Tri En 14 [.raw u] (hlBox V T ms h) (.bl false) (hlClosed V T (ms.set i (u, callOs V w (st + 1) ({ c with pc := .copying, cp := [] }))) ((h.mem (h.m.acc 1 V.b)))) := by
  have t := stp_check T (BoxP (ms.set i (u, []))) V hV h w st c hc hr hst
  obtain ⟨b, n, t0, o⟩ := V
  cases o
  all_goals
    refine step_lift hi (bl_any _) t rfl ?_
    show Yes _
    repeat' apply And.intro
    (all_goals first | rfl | assumption | trivial | omega | (simp [-List.getD_eq_getElem?_getD] <;> omega) | (simp (disch := omega) only [w64, wu64] <;> omega) | (simp (disch := omega) [-List.getD_eq_getElem?_getD, List.getD_cons_zero, List.getD_cons_succ, kCast_self, dfl_pair, dfl_int, w64, wu64] <;> omega) | (rw [Bool.eq_iff_iff]; simp (disch := omega) [-List.getD_eq_getElem?_getD, List.getD_cons_zero, List.getD_cons_succ, kCast_self, dfl_pair, dfl_int, w64, wu64] <;> omega) | (simp_all [-List.getD_eq_getElem?_getD] <;> omega))
theorem lft_check_no (V : HV) (hV : V.Ok) (h : HH) (w st : Nat) (c : Cl) (hl : 1 ≤ c.left) (hl2 : c.left ≤ 1000) (x : Nat) (hr : h.m.get V.b = x) (hx : x ≠ wRf c.href) (hst : st ≤ 1000000000) {u : Value} {ms : List BMem} {i T : Nat} (hi : ms[i]? = some (u, callOs V w st { c with pc := .check })) : Tri En 14 [.raw u] (hlBox V T ms h) (.bl false) (hlClosed V T (ms.set i (u, callOs V w (st + 1) ((failC c)))) ((h.mem (h.m.acc 1 V.b)))) := by
  have t := stp_check_no T (BoxP (ms.set i (u, []))) V hV h w st c hl hl2 x hr hx hst
  rcases failC_cases c with ⟨e1, e2⟩ | ⟨e1, e2⟩ | ⟨e1, e2⟩ <;> rw [e1, e2] at t <;> rw [e1]
  all_goals
    obtain ⟨b, n, t0, o⟩ := V
    cases o
    all_goals
      refine step_lift hi (bl_any _) t rfl ?_
      show Yes _
      repeat' apply And.intro
      (all_goals first | rfl | assumption | trivial | omega | (simp [-List.getD_eq_getElem?_getD] <;> omega) | (simp (disch := omega) only [w64, wu64] <;> omega) | (simp (disch := omega) [-List.getD_eq_getElem?_getD, List.getD_cons_zero, List.getD_cons_succ, kCast_self, dfl_pair, dfl_int, w64, wu64] <;> omega) | (rw [Bool.eq_iff_iff]; simp (disch := omega) [-List.getD_eq_getElem?_getD, List.getD_cons_zero, List.getD_cons_succ, kCast_self, dfl_pair, dfl_int, w64, wu64] <;> omega) | (simp_all [-List.getD_eq_getElem?_getD] <;> omega))
theorem lft_copying (V : HV) (hV : V.Ok) (h : HH) (w st : Nat) (c : Cl) (hc : c.href.1 < V.n ∧ c.href.2.1 < 2) (hl : c.cp.length < V.R) (x : Int) (hx : h.m.get (V.at_ c.href.1 c.href.2.1 + c.cp.length) = x) (hst : st ≤ 1000000000) {u : Value} {ms : List BMem} {i T : Nat} (hi : ms[i]? = some (u, callOs V w st { c with pc := .copying })) : Tri En 14 [.raw u] (hlBox V T ms h) (.bl false) (hlClosed V T (ms.set i (u, callOs V w (st + 1) ({ c with cp := c.cp ++ [x], pc := if c.cp.length + 1 = V.R then .recheck else .copying }))) ((h.mem (h.m.acc 1 (V.at_ c.href.1 c.href.2.1 + c.cp.length))))) := by
  have t := stp_copying T (BoxP (ms.set i (u, []))) V hV h w st c hc hl x hx hst
  rcases Classical.em (c.cp.length + 1 = V.R) with e | e
  · rw [if_pos e, if_pos e] at t
    rw [if_pos e]
    obtain ⟨b, n, t0, o⟩ := V
    cases o
    all_goals
      refine step_lift hi (bl_any _) t rfl ?_
      show Yes _
      repeat' apply And.intro
      (all_goals first | rfl | assumption | trivial | omega | (simp [-List.getD_eq_getElem?_getD] <;> omega) | (simp (disch := omega) only [w64, wu64] <;> omega) | (simp (disch := omega) [-List.getD_eq_getElem?_getD, List.getD_cons_zero, List.getD_cons_succ, kCast_self, dfl_pair, dfl_int, w64, wu64] <;> omega) | (rw [Bool.eq_iff_iff]; simp (disch := omega) [-List.getD_eq_getElem?_getD, List.getD_cons_zero, List.getD_cons_succ, kCast_self, dfl_pair, dfl_int, w64, wu64] <;> omega) | (simp_all [-List.getD_eq_getElem?_getD] <;> omega))
  · rw [if_neg e, if_neg e] at t
    rw [if_neg e]
    obtain ⟨b, n, t0, o⟩ := V
    cases o
    all_goals
      refine step_lift hi (bl_any _) t rfl ?_
      show Yes _
      repeat' apply And.intro
      (all_goals first | rfl | assumption | trivial | omega | (simp [-List.getD_eq_getElem?_getD] <;> omega) | (simp (disch := omega) only [w64, wu64] <;> omega) | (simp (disch := omega) [-List.getD_eq_getElem?_getD, List.getD_cons_zero, List.getD_cons_succ, kCast_self, dfl_pair, dfl_int, w64, wu64] <;> omega) | (rw [Bool.eq_iff_iff]; simp (disch := omega) [-List.getD_eq_getElem?_getD, List.getD_cons_zero, List.getD_cons_succ, kCast_self, dfl_pair, dfl_int, w64, wu64] <;> omega) | (simp_all [-List.getD_eq_getElem?_getD] <;> omega))
end Go.Proofs.YtnheodgffackoaaDoor.E

/- Package hall: steps, by the moves: written by gstep.py out of XPmvc. -/
namespace Go.Proofs.YtnheodgffackoaaDoor.E
set_option linter.unusedSimpArgs false
set_option linter.unusedVariables false
open Go Go.Proofs.YtnheodgffackoaaDoor.Y
set_option maxRecDepth 100000
set_option maxHeartbeats 4000000
theorem stp_recheck_no (T : Nat) (Q : List Loc → World → Nat → Prop) (V : HV) (hV : V.Ok) (h : HH) (w st : Nat) (c : Cl) (hl : 1 ≤ c.left) (hl2 : c.left ≤ 1000) (a : Int) (x : Nat) (hr : h.m.get V.b = x) (hx : x ≠ wRf c.href) (hst : st ≤ 1000000000) : Tri En 14 [.ptr 9 0 0] ((.gone :: hlO V h) ++ .box T [1, 2] Q :: [clN 1 (fnA 61) w st c (fCopy 10 c), cpC 2 11 a V.R c.cp.length, .tab true (.int .u64) c.cp]) (.bl false) ((.gone :: hlO V (h.mem (h.m.acc 1 V.b))) ++ .box T [1, 2] Q :: [clN 1 (fnA (failF c)) w (st + 1) (failC c) fBase, .gone, .gone]) := by
  have t1 := mv_recheck_no V hV h w (st + 1) c hl hl2 a x hr hx
  rcases failF_cases c with e | e | e <;> rw [e] at t1 ⊢
  all_goals
    obtain ⟨b, n, t, o⟩ := V
    cases o
    all_goals
      refine Tri.of Tryd.func14 rfl Tryd.call14 rfl ?_
      refine Goods.fin 2000 [.c (.of t1)] mixed Tryd.func14 ?_
      show Yes _
      repeat' apply And.intro
      (all_goals first | rfl | assumption | trivial | omega | (simp [-List.getD_eq_getElem?_getD] <;> omega) | (simp (disch := omega) only [w64, wu64] <;> omega) | (simp (disch := omega) [-List.getD_eq_getElem?_getD, List.getD_cons_zero, List.getD_cons_succ, kCast_self, dfl_pair, dfl_int, w64, wu64] <;> omega) | (rw [Bool.eq_iff_iff]; simp (disch := omega) [-List.getD_eq_getElem?_getD, List.getD_cons_zero, List.getD_cons_succ, kCast_self, dfl_pair, dfl_int, w64, wu64] <;> omega) | (simp_all [-List.getD_eq_getElem?_getD] <;> omega))
theorem stp_recheck_told (T : Nat) (Q : List Loc → World → Nat → Prop) (V : HV) (hV : V.Ok) (h : HH) (w st : Nat) (hw : w < V.n) (hk : h.ask.length = V.n) (c : Cl) (hc : c.cp.length = V.R) (a : Int) (hr : h.m.get V.b = (wRf c.href : Nat)) (hh : c.helped = true) (he : c.cp.getD (V.dn w) 0 = h.ask.getD w 0) (hst : st ≤ 1000000000) : Tri En 14 [.ptr 9 0 0] ((.gone :: hlO V h) ++ .box T [1, 2] Q :: [clN 1 (fnA 61) w st c (fCopy 10 c), cpC 2 11 a V.R c.cp.length, .tab true (.int .u64) c.cp]) (.bl true) ((.gone :: hlO V (h.mem (h.m.acc 1 V.b))) ++ .box T [1, 2] Q :: [clN 1 .nilfunc w (st + 1) { c with pc := .over, ans := (slot3 c.cp (V.dn w)).2, done := [], who := 0 } fBase, .gone, .gone]) := by
  have t1 := mv_recheck_told V hV h w (st + 1) hw hk c hc a hr hh he
  obtain ⟨b, n, t, o⟩ := V
  cases o
  all_goals
    refine Tri.of Tryd.func14 rfl Tryd.call14 rfl ?_
    refine Goods.fin 2000 [.c (.of t1)] mixed Tryd.func14 ?_
    show Yes _
    repeat' apply And.intro
    (all_goals first | rfl | assumption | trivial | omega | (simp [-List.getD_eq_getElem?_getD] <;> omega) | (simp (disch := omega) only [w64, wu64] <;> omega) | (simp (disch := omega) [-List.getD_eq_getElem?_getD, List.getD_cons_zero, List.getD_cons_succ, kCast_self, dfl_pair, dfl_int, w64, wu64] <;> omega) | (rw [Bool.eq_iff_iff]; simp (disch := omega) [-List.getD_eq_getElem?_getD, List.getD_cons_zero, List.getD_cons_succ, kCast_self, dfl_pair, dfl_int, w64, wu64] <;> omega) | (simp_all [-List.getD_eq_getElem?_getD] <;> omega))
theorem stp_recheck (T : Nat) (Q : List Loc → World → Nat → Prop) (V : HV) (hV : V.Ok) (h : HH) (w st : Nat) (hw : w < V.n) (hk : h.ask.length = V.n) (c : Cl) (hc : c.cp.length = V.R) (a : Int) (hr : h.m.get V.b = (wRf c.href : Nat)) (he : ¬ (c.helped = true ∧ c.cp.getD (V.dn w) 0 = h.ask.getD w 0)) (hst : st ≤ 1000000000) : Tri En 14 [.ptr 9 0 0] ((.gone :: hlO V h) ++ .box T [1, 2] Q :: [clN 1 (fnA 61) w st c (fCopy 10 c), cpC 2 11 a V.R c.cp.length, .tab true (.int .u64) c.cp]) (.bl false) ((.gone :: hlO V (h.mem (h.m.acc 1 V.b))) ++ .box T [1, 2] Q :: [clN 1 (fnA 66) w (st + 1) { c with pc := .ask, done := [], who := 0 } (fAsk 12 13 .any .any { c with pc := .ask, done := [], who := 0 }), .gone, .gone, recT c, doneT { c with done := [] }]) := by
  have t1 := mv_recheck V hV h w (st + 1) hw hk c hc a hr he
  obtain ⟨b, n, t, o⟩ := V
  cases o
  all_goals
    refine Tri.of Tryd.func14 rfl Tryd.call14 rfl ?_
    refine Goods.fin 2000 [.c (.of t1)] mixed Tryd.func14 ?_
    show Yes _
    repeat' apply And.intro
    (all_goals first | rfl | assumption | trivial | omega | (simp [-List.getD_eq_getElem?_getD] <;> omega) | (simp (disch := omega) only [w64, wu64] <;> omega) | (simp (disch := omega) [-List.getD_eq_getElem?_getD, List.getD_cons_zero, List.getD_cons_succ, kCast_self, dfl_pair, dfl_int, w64, wu64] <;> omega) | (rw [Bool.eq_iff_iff]; simp (disch := omega) [-List.getD_eq_getElem?_getD, List.getD_cons_zero, List.getD_cons_succ, kCast_self, dfl_pair, dfl_int, w64, wu64] <;> omega) | (simp_all [-List.getD_eq_getElem?_getD] <;> omega))
end Go.Proofs.YtnheodgffackoaaDoor.E

/- Package hall: steps, from box to box: written by gstep2.py out of XPstqc. -/
namespace Go.Proofs.YtnheodgffackoaaDoor.E
set_option linter.unusedSimpArgs false
set_option linter.unusedVariables false
open Go Go.Proofs.YtnheodgffackoaaDoor.Y
set_option maxRecDepth 100000
set_option maxHeartbeats 4000000
theorem lft_recheck_no (V : HV) (hV : V.Ok) (h : HH) (w st : Nat) (c : Cl) (hl : 1 ≤ c.left) (hl2 : c.left ≤ 1000) (x : Nat) (hr : h.m.get V.b = x) (hx : x ≠ wRf c.href) (hst : st ≤ 1000000000) {u : Value} {ms : List BMem} {i T : Nat} (hi : ms[i]? = some (u, callOs V w st { c with pc := .recheck })) : Tri En 14 [.raw u] (hlBox V T ms h) (.bl false) (hlClosed V T (ms.set i (u, callOs V w (st + 1) ((failC c)))) ((h.mem (h.m.acc 1 V.b)))) := by
  have t := stp_recheck_no T (BoxP (ms.set i (u, []))) V hV h w st c hl hl2 ((V.at_ c.href.1 c.href.2.1 : Nat) : Int) x hr hx hst
  rcases failC_cases c with ⟨e1, e2⟩ | ⟨e1, e2⟩ | ⟨e1, e2⟩ <;> rw [e1, e2] at t <;> rw [e1]
  all_goals
    obtain ⟨b, n, t0, o⟩ := V
    cases o
    all_goals
      refine step_lift hi (bl_any _) t rfl ?_
      show Yes _
      repeat' apply And.intro
      (all_goals first | rfl | assumption | trivial | omega | (simp [-List.getD_eq_getElem?_getD] <;> omega) | (simp (disch := omega) only [w64, wu64] <;> omega) | (simp (disch := omega) [-List.getD_eq_getElem?_getD, List.getD_cons_zero, List.getD_cons_succ, kCast_self, dfl_pair, dfl_int, w64, wu64] <;> omega) | (rw [Bool.eq_iff_iff]; simp (disch := omega) [-List.getD_eq_getElem?_getD, List.getD_cons_zero, List.getD_cons_succ, kCast_self, dfl_pair, dfl_int, w64, wu64] <;> omega) | (simp_all [-List.getD_eq_getElem?_getD] <;> omega))
theorem lft_recheck_told (V : HV) (hV : V.Ok) (h : HH) (w st : Nat) (hw : w < V.n) (hk : h.ask.length = V.n) (c : Cl) (hc : c.cp.length = V.R) (hr : h.m.get V.b = (wRf c.href : Nat)) (hh : c.helped = true) (he : c.cp.getD (V.dn w) 0 = h.ask.getD w 0) (hst : st ≤ 1000000000) {u : Value} {ms : List BMem} {i T : Nat} (hi : ms[i]? = some (u, callOs V w st { c with pc := .recheck })) : Tri En 14 [.raw u] (hlBox V T ms h) (.bl true) (hlClosed V T (ms.set i (u, callOs V w (st + 1) ({ c with pc := .over, ans := (slot3 c.cp (V.dn w)).2, done := [], who := 0 }))) ((h.mem (h.m.acc 1 V.b)))) := by
  have t := stp_recheck_told T (BoxP (ms.set i (u, []))) V hV h w st hw hk c hc ((V.at_ c.href.1 c.href.2.1 : Nat) : Int) hr hh he hst
  obtain ⟨b, n, t0, o⟩ := V
  cases o
  all_goals
    refine step_lift hi (bl_any _) t rfl ?_
    show Yes _
    repeat' apply And.intro
    (all_goals first | rfl | assumption | trivial | omega | (simp [-List.getD_eq_getElem?_getD] <;> omega) | (simp (disch := omega) only [w64, wu64] <;> omega) | (simp (disch := omega) [-List.getD_eq_getElem?_getD, List.getD_cons_zero, List.getD_cons_succ, kCast_self, dfl_pair, dfl_int, w64, wu64] <;> omega) | (rw [Bool.eq_iff_iff]; simp (disch := omega) [-List.getD_eq_getElem?_getD, List.getD_cons_zero, List.getD_cons_succ, kCast_self, dfl_pair, dfl_int, w64, wu64] <;> omega) | (simp_all [-List.getD_eq_getElem?_getD] <;> omega))
theorem lft_recheck (V : HV) (hV : V.Ok) (h : HH) (w st : Nat) (hw : w < V.n) (hk : h.ask.length = V.n) (c : Cl) (hc : c.cp.length = V.R) (hr : h.m.get V.b = (wRf c.href : Nat)) (he : ¬ (c.helped = true ∧ c.cp.getD (V.dn w) 0 = h.ask.getD w 0)) (hst : st ≤ 1000000000) {u : Value} {ms : List BMem} {i T : Nat} (hi : ms[i]? = some (u, callOs V w st { c with pc := .recheck })) : Tri En 14 [.raw u] (hlBox V T ms h) (.bl false) (hlClosed V T (ms.set i (u, callOs V w (st + 1) ({ c with pc := .ask, done := [], who := 0 }))) ((h.mem (h.m.acc 1 V.b)))) := by
  have t := stp_recheck T (BoxP (ms.set i (u, []))) V hV h w st hw hk c hc ((V.at_ c.href.1 c.href.2.1 : Nat) : Int) hr he hst
  obtain ⟨b, n, t0, o⟩ := V
  cases o
  all_goals
    refine step_lift hi (bl_any _) t rfl ?_
    show Yes _
    repeat' apply And.intro
    (all_goals first | rfl | assumption | trivial | omega | (simp [-List.getD_eq_getElem?_getD] <;> omega) | (simp (disch := omega) only [w64, wu64] <;> omega) | (simp (disch := omega) [-List.getD_eq_getElem?_getD, List.getD_cons_zero, List.getD_cons_succ, kCast_self, dfl_pair, dfl_int, w64, wu64] <;> omega) | (rw [Bool.eq_iff_iff]; simp (disch := omega) [-List.getD_eq_getElem?_getD, List.getD_cons_zero, List.getD_cons_succ, kCast_self, dfl_pair, dfl_int, w64, wu64] <;> omega) | (simp_all [-List.getD_eq_getElem?_getD] <;> omega))
end Go.Proofs.YtnheodgffackoaaDoor.E

/- Package hall: steps, by the moves: written by gstep.py out of XPmvg. -/
namespace Go.Proofs.YtnheodgffackoaaDoor.E
set_option linter.unusedSimpArgs false
set_option linter.unusedVariables false
open Go Go.Proofs.YtnheodgffackoaaDoor.Y
set_option maxRecDepth 100000
set_option maxHeartbeats 4000000
theorem stp_ask (T : Nat) (Q : List Loc → World → Nat → Prop) (V : HV) (hV : V.Ok) (h : HH) (w st : Nat) (c : Cl) (hw : c.who < V.n) (hc : c.cp.length = V.R) (x : Int) (hx : h.m.get ((V.b + 1 + c.who + V.n : Nat) : Int) = x) (hne : ¬ x = c.cp.getD (V.dn c.who) 0) (hst : st ≤ 1000000000) : Tri En 14 [.ptr 9 0 0] ((.gone :: hlO V h) ++ .box T [1, 2] Q :: [clN 1 (fnA 66) w st c (fAsk 10 11 .any .any c), recT c, doneT c]) (.bl false) ((.gone :: hlO V (h.mem (h.m.acc 1 ((V.b + 1 + c.who + V.n : Nat) : Int)))) ++ .box T [1, 2] Q :: [clN 1 (fnA 71) w (st + 1) { c with phase := x, pc := .askA } (fAsk 10 11 (.int .u64 x) .any c), recT c, doneT c]) := by
  have t1 := mv_ask V hV h w (st + 1) c hw hc x hx hne
  obtain ⟨b, n, t, o⟩ := V
  cases o
  all_goals
    refine Tri.of Tryd.func14 rfl Tryd.call14 rfl ?_
    refine Goods.fin 2000 [.c (.of t1)] mixed Tryd.func14 ?_
    show Yes _
    repeat' apply And.intro
    (all_goals first | rfl | assumption | trivial | omega | (simp [-List.getD_eq_getElem?_getD] <;> omega) | (simp (disch := omega) only [w64, wu64] <;> omega) | (simp (disch := omega) [-List.getD_eq_getElem?_getD, List.getD_cons_zero, List.getD_cons_succ, kCast_self, dfl_pair, dfl_int, w64, wu64] <;> omega) | (rw [Bool.eq_iff_iff]; simp (disch := omega) [-List.getD_eq_getElem?_getD, List.getD_cons_zero, List.getD_cons_succ, kCast_self, dfl_pair, dfl_int, w64, wu64] <;> omega) | (simp_all [-List.getD_eq_getElem?_getD] <;> omega))
theorem stp_ask_next (T : Nat) (Q : List Loc → World → Nat → Prop) (V : HV) (hV : V.Ok) (h : HH) (w st : Nat) (c : Cl) (hw : c.who < V.n) (hc : c.cp.length = V.R) (x : Int) (hx : h.m.get ((V.b + 1 + c.who + V.n : Nat) : Int) = x) (hne : x = c.cp.getD (V.dn c.who) 0) (hw1 : c.who + 1 < V.n) (hst : st ≤ 1000000000) : Tri En 14 [.ptr 9 0 0] ((.gone :: hlO V h) ++ .box T [1, 2] Q :: [clN 1 (fnA 66) w st c (fAsk 10 11 .any .any c), recT c, doneT c]) (.bl false) ((.gone :: hlO V (h.mem (h.m.acc 1 ((V.b + 1 + c.who + V.n : Nat) : Int)))) ++ .box T [1, 2] Q :: [clN 1 (fnA 66) w (st + 1) { c with phase := x, who := c.who + 1, pc := .ask } (fAsk 10 11 .any .any { c with who := c.who + 1 }), recT c, doneT c]) := by
  have t1 := mv_ask_next V hV h w (st + 1) c hw hc x hx hne hw1
  obtain ⟨b, n, t, o⟩ := V
  cases o
  all_goals
    refine Tri.of Tryd.func14 rfl Tryd.call14 rfl ?_
    refine Goods.fin 2000 [.c (.of t1)] mixed Tryd.func14 ?_
    show Yes _
    repeat' apply And.intro
    (all_goals first | rfl | assumption | trivial | omega | (simp [-List.getD_eq_getElem?_getD] <;> omega) | (simp (disch := omega) only [w64, wu64] <;> omega) | (simp (disch := omega) [-List.getD_eq_getElem?_getD, List.getD_cons_zero, List.getD_cons_succ, kCast_self, dfl_pair, dfl_int, w64, wu64] <;> omega) | (rw [Bool.eq_iff_iff]; simp (disch := omega) [-List.getD_eq_getElem?_getD, List.getD_cons_zero, List.getD_cons_succ, kCast_self, dfl_pair, dfl_int, w64, wu64] <;> omega) | (simp_all [-List.getD_eq_getElem?_getD] <;> omega))
theorem stp_ask_helped (T : Nat) (Q : List Loc → World → Nat → Prop) (V : HV) (hV : V.Ok) (h : HH) (w st : Nat) (c : Cl) (hw : c.who < V.n) (hc : c.cp.length = V.R) (x : Int) (hx : h.m.get ((V.b + 1 + c.who + V.n : Nat) : Int) = x) (hne : x = c.cp.getD (V.dn c.who) 0) (hw1 : ¬ c.who + 1 < V.n) (hh : c.helped = true) (hst : st ≤ 1000000000) : Tri En 14 [.ptr 9 0 0] ((.gone :: hlO V h) ++ .box T [1, 2] Q :: [clN 1 (fnA 66) w st c (fAsk 10 11 .any .any c), recT c, doneT c]) (.bl false) ((.gone :: hlO V (h.mem (h.m.acc 1 ((V.b + 1 + c.who + V.n : Nat) : Int)))) ++ .box T [1, 2] Q :: [clN 1 (fnA 74) w (st + 1) { c with phase := x, who := c.who + 1, pc := .scanning, used := [], pos := 0 } (fScan 10 11 12 c), recT c, doneT c, scC 2 13 V w { c with used := [], pos := 0 }, tagsT []]) := by
  have t1 := mv_ask_helped V hV h w (st + 1) c hw hc x hx hne hw1 hh
  obtain ⟨b, n, t, o⟩ := V
  cases o
  all_goals
    refine Tri.of Tryd.func14 rfl Tryd.call14 rfl ?_
    refine Goods.fin 2000 [.c (.of t1)] mixed Tryd.func14 ?_
    show Yes _
    repeat' apply And.intro
    (all_goals first | rfl | assumption | trivial | omega | (simp [-List.getD_eq_getElem?_getD] <;> omega) | (simp (disch := omega) only [w64, wu64] <;> omega) | (simp (disch := omega) [-List.getD_eq_getElem?_getD, List.getD_cons_zero, List.getD_cons_succ, kCast_self, dfl_pair, dfl_int, w64, wu64] <;> omega) | (rw [Bool.eq_iff_iff]; simp (disch := omega) [-List.getD_eq_getElem?_getD, List.getD_cons_zero, List.getD_cons_succ, kCast_self, dfl_pair, dfl_int, w64, wu64] <;> omega) | (simp_all [-List.getD_eq_getElem?_getD] <;> omega))
theorem stp_ask_own (T : Nat) (Q : List Loc → World → Nat → Prop) (V : HV) (hV : V.Ok) (h : HH) (w st : Nat) (c : Cl) (hw : c.who < V.n) (hc : c.cp.length = V.R) (x : Int) (hx : h.m.get ((V.b + 1 + c.who + V.n : Nat) : Int) = x) (hne : x = c.cp.getD (V.dn c.who) 0) (hw1 : ¬ c.who + 1 < V.n) (hh : c.helped = false) (hok : obOk V.o (c.cp.take (obW V.o))) (hd : c.done.length ≤ 1000) (hst : st ≤ 1000000000) : Tri En 14 [.ptr 9 0 0] ((.gone :: hlO V h) ++ .box T [1, 2] Q :: [clN 1 (fnA 66) w st c (fAsk 10 11 .any .any c), recT c, doneT c]) (.bl false) ((.gone :: hlO V (h.mem (h.m.acc 1 ((V.b + 1 + c.who + V.n : Nat) : Int)))) ++ .box T [1, 2] Q :: [clN 1 (fnA 74) w (st + 1) { doneC { c with phase := x, who := c.who + 1 } w c.op V.o with ans := (apV V.o c.cp c.op).2, pc := .scanning, used := [], pos := 0 } (fScan 10 12 13 (doneC c w c.op V.o)), recT (doneC c w c.op V.o), .gone, doneT (doneC c w c.op V.o), scC 2 14 V w { c with used := [], pos := 0 }, tagsT []]) := by
  have t1 := mv_ask_own V hV h w (st + 1) c hw hc x hx hne hw1 hh hok hd
  obtain ⟨b, n, t, o⟩ := V
  cases o
  all_goals
    refine Tri.of Tryd.func14 rfl Tryd.call14 rfl ?_
    refine Goods.fin 2000 [.c (.of t1)] mixed Tryd.func14 ?_
    show Yes _
    repeat' apply And.intro
    (all_goals first | rfl | assumption | trivial | omega | (simp [-List.getD_eq_getElem?_getD] <;> omega) | (simp (disch := omega) only [w64, wu64] <;> omega) | (simp (disch := omega) [-List.getD_eq_getElem?_getD, List.getD_cons_zero, List.getD_cons_succ, kCast_self, dfl_pair, dfl_int, w64, wu64] <;> omega) | (rw [Bool.eq_iff_iff]; simp (disch := omega) [-List.getD_eq_getElem?_getD, List.getD_cons_zero, List.getD_cons_succ, kCast_self, dfl_pair, dfl_int, w64, wu64] <;> omega) | (simp_all [-List.getD_eq_getElem?_getD] <;> omega))
end Go.Proofs.YtnheodgffackoaaDoor.E

/- Package hall: steps, from box to box: written by gstep2.py out of XPstqg. -/
namespace Go.Proofs.YtnheodgffackoaaDoor.E
set_option linter.unusedSimpArgs false
set_option linter.unusedVariables false
open Go Go.Proofs.YtnheodgffackoaaDoor.Y
set_option maxRecDepth 100000
set_option maxHeartbeats 4000000
theorem lft_ask (V : HV) (hV : V.Ok) (h : HH) (w st : Nat) (c : Cl) (hw : c.who < V.n) (hc : c.cp.length = V.R) (x : Int) (hx : h.m.get ((V.b + 1 + c.who + V.n : Nat) : Int) = x) (hne : ¬ x = c.cp.getD (V.dn c.who) 0) (hst : st ≤ 1000000000) {u : Value} {ms : List BMem} {i T : Nat} (hi : ms[i]? = some (u, callOs V w st { c with pc := .ask })) : Tri En 14 [.raw u] (hlBox V T ms h) (.bl false) (hlClosed V T (ms.set i (u, callOs V w (st + 1) ({ c with phase := x, pc := .askA }))) ((h.mem (h.m.acc 1 ((V.b + 1 + c.who + V.n : Nat) : Int))))) := by
  have t := stp_ask T (BoxP (ms.set i (u, []))) V hV h w st c hw hc x hx hne hst
  obtain ⟨b, n, t0, o⟩ := V
  cases o
  all_goals
    refine step_lift hi (bl_any _) t rfl ?_
    show Yes _
    repeat' apply And.intro
    (all_goals first | rfl | assumption | trivial | omega | (simp [-List.getD_eq_getElem?_getD] <;> omega) | (simp (disch := omega) only [w64, wu64] <;> omega) | (simp (disch := omega) [-List.getD_eq_getElem?_getD, List.getD_cons_zero, List.getD_cons_succ, kCast_self, dfl_pair, dfl_int, w64, wu64] <;> omega) | (rw [Bool.eq_iff_iff]; simp (disch := omega) [-List.getD_eq_getElem?_getD, List.getD_cons_zero, List.getD_cons_succ, kCast_self, dfl_pair, dfl_int, w64, wu64] <;> omega) | (simp_all [-List.getD_eq_getElem?_getD] <;> omega))
theorem lft_ask_next (V : HV) (hV : V.Ok) (h : HH) (w st : Nat) (c : Cl) (hw : c.who < V.n) (hc : c.cp.length = V.R) (x : Int) (hx : h.m.get ((V.b + 1 + c.who + V.n : Nat) : Int) = x) (hne : x = c.cp.getD (V.dn c.who) 0) (hw1 : c.who + 1 < V.n) (hst : st ≤ 1000000000) {u : Value} {ms : List BMem} {i T : Nat} (hi : ms[i]? = some (u, callOs V w st { c with pc := .ask })) : Tri En 14 [.raw u] (hlBox V T ms h) (.bl false) (hlClosed V T (ms.set i (u, callOs V w (st + 1) ({ c with phase := x, who := c.who + 1, pc := .ask }))) ((h.mem (h.m.acc 1 ((V.b + 1 + c.who + V.n : Nat) : Int))))) := by
  have t := stp_ask_next T (BoxP (ms.set i (u, []))) V hV h w st c hw hc x hx hne hw1 hst
  obtain ⟨b, n, t0, o⟩ := V
  cases o
  all_goals
    refine step_lift hi (bl_any _) t rfl ?_
    show Yes _
    repeat' apply And.intro
    (all_goals first | rfl | assumption | trivial | omega | (simp [-List.getD_eq_getElem?_getD] <;> omega) | (simp (disch := omega) only [w64, wu64] <;> omega) | (simp (disch := omega) [-List.getD_eq_getElem?_getD, List.getD_cons_zero, List.getD_cons_succ, kCast_self, dfl_pair, dfl_int, w64, wu64] <;> omega) | (rw [Bool.eq_iff_iff]; simp (disch := omega) [-List.getD_eq_getElem?_getD, List.getD_cons_zero, List.getD_cons_succ, kCast_self, dfl_pair, dfl_int, w64, wu64] <;> omega) | (simp_all [-List.getD_eq_getElem?_getD] <;> omega))
theorem lft_ask_helped (V : HV) (hV : V.Ok) (h : HH) (w st : Nat) (c : Cl) (hw : c.who < V.n) (hc : c.cp.length = V.R) (x : Int) (hx : h.m.get ((V.b + 1 + c.who + V.n : Nat) : Int) = x) (hne : x = c.cp.getD (V.dn c.who) 0) (hw1 : ¬ c.who + 1 < V.n) (hh : c.helped = true) (hst : st ≤ 1000000000) {u : Value} {ms : List BMem} {i T : Nat} (hi : ms[i]? = some (u, callOs V w st { c with pc := .ask })) : Tri En 14 [.raw u] (hlBox V T ms h) (.bl false) (hlClosed V T (ms.set i (u, callOs V w (st + 1) ({ c with phase := x, who := c.who + 1, pc := .scanning, used := [], pos := 0 }))) ((h.mem (h.m.acc 1 ((V.b + 1 + c.who + V.n : Nat) : Int))))) := by
  have t := stp_ask_helped T (BoxP (ms.set i (u, []))) V hV h w st c hw hc x hx hne hw1 hh hst
  obtain ⟨b, n, t0, o⟩ := V
  cases o
  all_goals
    refine step_lift hi (bl_any _) t rfl ?_
    show Yes _
    repeat' apply And.intro
    (all_goals first | rfl | assumption | trivial | omega | (simp [-List.getD_eq_getElem?_getD] <;> omega) | (simp (disch := omega) only [w64, wu64] <;> omega) | (simp (disch := omega) [-List.getD_eq_getElem?_getD, List.getD_cons_zero, List.getD_cons_succ, kCast_self, dfl_pair, dfl_int, w64, wu64] <;> omega) | (rw [Bool.eq_iff_iff]; simp (disch := omega) [-List.getD_eq_getElem?_getD, List.getD_cons_zero, List.getD_cons_succ, kCast_self, dfl_pair, dfl_int, w64, wu64] <;> omega) | (simp_all [-List.getD_eq_getElem?_getD] <;> omega))
theorem lft_ask_own (V : HV) (hV : V.Ok) (h : HH) (w st : Nat) (c : Cl) (hw : c.who < V.n) (hc : c.cp.length = V.R) (x : Int) (hx : h.m.get ((V.b + 1 + c.who + V.n : Nat) : Int) = x) (hne : x = c.cp.getD (V.dn c.who) 0) (hw1 : ¬ c.who + 1 < V.n) (hh : c.helped = false) (hok : obOk V.o (c.cp.take (obW V.o))) (hd : c.done.length ≤ 1000) (hst : st ≤ 1000000000) {u : Value} {ms : List BMem} {i T : Nat} (hi : ms[i]? = some (u, callOs V w st { c with pc := .ask })) : Tri En 14 [.raw u] (hlBox V T ms h) (.bl false) (hlClosed V T (ms.set i (u, callOs V w (st + 1) ({ doneC { c with phase := x, who := c.who + 1 } w c.op V.o with ans := (apV V.o c.cp c.op).2, pc := .scanning, used := [], pos := 0 }))) ((h.mem (h.m.acc 1 ((V.b + 1 + c.who + V.n : Nat) : Int))))) := by
  have t := stp_ask_own T (BoxP (ms.set i (u, []))) V hV h w st c hw hc x hx hne hw1 hh hok hd hst
  obtain ⟨b, n, t0, o⟩ := V
  cases o
  all_goals
    refine step_lift hi (bl_any _) t rfl ?_
    show Yes _
    repeat' apply And.intro
    (all_goals first | rfl | assumption | trivial | omega | (simp [-List.getD_eq_getElem?_getD] <;> omega) | (simp (disch := omega) only [w64, wu64] <;> omega) | (simp (disch := omega) [-List.getD_eq_getElem?_getD, List.getD_cons_zero, List.getD_cons_succ, kCast_self, dfl_pair, dfl_int, w64, wu64] <;> omega) | (rw [Bool.eq_iff_iff]; simp (disch := omega) [-List.getD_eq_getElem?_getD, List.getD_cons_zero, List.getD_cons_succ, kCast_self, dfl_pair, dfl_int, w64, wu64] <;> omega) | (simp_all [-List.getD_eq_getElem?_getD] <;> omega))
end Go.Proofs.YtnheodgffackoaaDoor.E
