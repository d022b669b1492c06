/- Several texts in one. -/
import Derived.Test.YtnheodgffackoaaDoorPmvik
/- Package hall: steps, by the moves: written by gstep.py out of XPmvh. -/
namespace Go.Proofs.YtnheodgffackoaaDoor.E
set_option linter.unusedSimpArgs false
set_option linter.unusedVariables false
open Go Go.Proofs.YtnheodgffackoaaDoor.Y
set_option maxRecDepth 100000
set_option maxHeartbeats 4000000
theorem stp_askA (T : Nat) (Q : List Loc → World → Nat → Prop) (V : HV) (hV : V.Ok) (h : HH) (w st : Nat) (c : Cl) (hw : c.who < V.n) (x : Int) (hx : h.m.get ((V.b + 1 + c.who + 2 * V.n : Nat) : Int) = x) (hst : st ≤ 1000000000) : Tri En 14 [.ptr 9 0 0] ((.gone :: hlO V h) ++ .box T [1, 2] Q :: [clN 1 (fnA 71) w st c (fAsk 10 11 (phA c) .any c), recT c, doneT c]) (.bl false) ((.gone :: hlO V (h.mem (h.m.acc 1 ((V.b + 1 + c.who + 2 * V.n : Nat) : Int)))) ++ .box T [1, 2] Q :: [clN 1 (fnA 75) w (st + 1) { c with wA := x, pc := .askB } (fAsk 10 11 (phA c) (.int .u64 x) c), recT c, doneT c]) := by
  have t1 := mv_askA V hV h w (st + 1) c hw x hx
  obtain ⟨b, n, t, o⟩ := V
  cases o
  all_goals
    refine Tri.of Tryd.func14 rfl Tryd.call14 rfl ?_
    refine Goods.fin 2000 [.c (.of t1)] mixed Tryd.func14 ?_
    show Yes _
    repeat' apply And.intro
    (all_goals first | rfl | assumption | trivial | omega | (simp [-List.getD_eq_getElem?_getD] <;> omega) | (simp (disch := omega) only [w64, wu64] <;> omega) | (simp (disch := omega) [-List.getD_eq_getElem?_getD, List.getD_cons_zero, List.getD_cons_succ, kCast_self, dfl_pair, dfl_int, w64, wu64] <;> omega) | (rw [Bool.eq_iff_iff]; simp (disch := omega) [-List.getD_eq_getElem?_getD, List.getD_cons_zero, List.getD_cons_succ, kCast_self, dfl_pair, dfl_int, w64, wu64] <;> omega) | (simp_all [-List.getD_eq_getElem?_getD] <;> omega))
theorem stp_askB_next (T : Nat) (Q : List Loc → World → Nat → Prop) (V : HV) (hV : V.Ok) (h : HH) (w st : Nat) (c : Cl) (hw : c.who < V.n) (hc : c.cp.length = V.R) (hok : obOk V.o (c.cp.take (obW V.o))) (hd : c.done.length ≤ 900) (y : Int) (hy : h.m.get ((V.b + 1 + c.who + 3 * V.n : Nat) : Int) = y) (hw1 : c.who + 1 < V.n) (hst : st ≤ 1000000000) : Tri En 14 [.ptr 9 0 0] ((.gone :: hlO V h) ++ .box T [1, 2] Q :: [clN 1 (fnA 75) w st c (fAsk 10 11 (phA c) (.int .u64 c.wA) c), recT c, doneT c]) (.bl false) ((.gone :: hlO V (h.mem (h.m.acc 1 ((V.b + 1 + c.who + 3 * V.n : Nat) : Int)))) ++ .box T [1, 2] Q :: [clN 1 (fnA 66) w (st + 1) { askC c y V with who := c.who + 1, pc := .ask } (fAsk 10 12 .any .any { askC c y V with who := c.who + 1 }), recT (askC c y V), .gone, doneT (askC c y V)]) := by
  have t1 := mv_askB_next V hV h w (st + 1) c hw hc hok hd y hy hw1
  obtain ⟨b, n, t, o⟩ := V
  cases o
  all_goals
    refine Tri.of Tryd.func14 rfl Tryd.call14 rfl ?_
    refine Goods.fin 2000 [.c (.of t1)] mixed Tryd.func14 ?_
    show Yes _
    repeat' apply And.intro
    (all_goals first | rfl | assumption | trivial | omega | (simp [-List.getD_eq_getElem?_getD] <;> omega) | (simp (disch := omega) only [w64, wu64] <;> omega) | (simp (disch := omega) [-List.getD_eq_getElem?_getD, List.getD_cons_zero, List.getD_cons_succ, kCast_self, dfl_pair, dfl_int, w64, wu64] <;> omega) | (rw [Bool.eq_iff_iff]; simp (disch := omega) [-List.getD_eq_getElem?_getD, List.getD_cons_zero, List.getD_cons_succ, kCast_self, dfl_pair, dfl_int, w64, wu64] <;> omega) | (simp_all [-List.getD_eq_getElem?_getD] <;> omega))
theorem stp_askB_helped (T : Nat) (Q : List Loc → World → Nat → Prop) (V : HV) (hV : V.Ok) (h : HH) (w st : Nat) (c : Cl) (hw : c.who < V.n) (hc : c.cp.length = V.R) (hok : obOk V.o (c.cp.take (obW V.o))) (hd : c.done.length ≤ 900) (y : Int) (hy : h.m.get ((V.b + 1 + c.who + 3 * V.n : Nat) : Int) = y) (hw1 : ¬ c.who + 1 < V.n) (hh : c.helped = true) (hst : st ≤ 1000000000) : Tri En 14 [.ptr 9 0 0] ((.gone :: hlO V h) ++ .box T [1, 2] Q :: [clN 1 (fnA 75) w st c (fAsk 10 11 (phA c) (.int .u64 c.wA) c), recT c, doneT c]) (.bl false) ((.gone :: hlO V (h.mem (h.m.acc 1 ((V.b + 1 + c.who + 3 * V.n : Nat) : Int)))) ++ .box T [1, 2] Q :: [clN 1 (fnA 74) w (st + 1) { askC c y V with who := c.who + 1, pc := .scanning, used := [], pos := 0 } (fScan 10 12 13 (askC c y V)), recT (askC c y V), .gone, doneT (askC c y V), scC 2 14 V w { c with used := [], pos := 0 }, tagsT []]) := by
  have t1 := mv_askB_helped V hV h w (st + 1) c hw hc hok hd y hy hw1 hh
  obtain ⟨b, n, t, o⟩ := V
  cases o
  all_goals
    refine Tri.of Tryd.func14 rfl Tryd.call14 rfl ?_
    refine Goods.fin 2000 [.c (.of t1)] mixed Tryd.func14 ?_
    show Yes _
    repeat' apply And.intro
    (all_goals first | rfl | assumption | trivial | omega | (simp [-List.getD_eq_getElem?_getD] <;> omega) | (simp (disch := omega) only [w64, wu64] <;> omega) | (simp (disch := omega) [-List.getD_eq_getElem?_getD, List.getD_cons_zero, List.getD_cons_succ, kCast_self, dfl_pair, dfl_int, w64, wu64] <;> omega) | (rw [Bool.eq_iff_iff]; simp (disch := omega) [-List.getD_eq_getElem?_getD, List.getD_cons_zero, List.getD_cons_succ, kCast_self, dfl_pair, dfl_int, w64, wu64] <;> omega) | (simp_all [-List.getD_eq_getElem?_getD] <;> omega))
theorem stp_askB_own (T : Nat) (Q : List Loc → World → Nat → Prop) (V : HV) (hV : V.Ok) (h : HH) (w st : Nat) (c : Cl) (hw : c.who < V.n) (hc : c.cp.length = V.R) (hok : obOk V.o (c.cp.take (obW V.o))) (hd : c.done.length ≤ 900) (y : Int) (hy : h.m.get ((V.b + 1 + c.who + 3 * V.n : Nat) : Int) = y) (hw1 : ¬ c.who + 1 < V.n) (hh : c.helped = false) (hst : st ≤ 1000000000) : Tri En 14 [.ptr 9 0 0] ((.gone :: hlO V h) ++ .box T [1, 2] Q :: [clN 1 (fnA 75) w st c (fAsk 10 11 (phA c) (.int .u64 c.wA) c), recT c, doneT c]) (.bl false) ((.gone :: hlO V (h.mem (h.m.acc 1 ((V.b + 1 + c.who + 3 * V.n : Nat) : Int)))) ++ .box T [1, 2] Q :: [clN 1 (fnA 74) w (st + 1) { doneC { askC c y V with who := c.who + 1 } w c.op V.o with ans := (apV V.o (askC c y V).cp c.op).2, pc := .scanning, used := [], pos := 0 } (fScan 10 13 14 (doneC (askC c y V) w c.op V.o)), recT (doneC (askC c y V) w c.op V.o), .gone, .gone, doneT (doneC (askC c y V) w c.op V.o), scC 2 15 V w { c with used := [], pos := 0 }, tagsT []]) := by
  have t1 := mv_askB_own V hV h w (st + 1) c hw hc hok hd y hy hw1 hh
  obtain ⟨b, n, t, o⟩ := V
  cases o
  all_goals
    refine Tri.of Tryd.func14 rfl Tryd.call14 rfl ?_
    refine Goods.fin 2000 [.c (.of t1)] mixed Tryd.func14 ?_
    show Yes _
    repeat' apply And.intro
    (all_goals first | rfl | assumption | trivial | omega | (simp [-List.getD_eq_getElem?_getD] <;> omega) | (simp (disch := omega) only [w64, wu64] <;> omega) | (simp (disch := omega) [-List.getD_eq_getElem?_getD, List.getD_cons_zero, List.getD_cons_succ, kCast_self, dfl_pair, dfl_int, w64, wu64] <;> omega) | (rw [Bool.eq_iff_iff]; simp (disch := omega) [-List.getD_eq_getElem?_getD, List.getD_cons_zero, List.getD_cons_succ, kCast_self, dfl_pair, dfl_int, w64, wu64] <;> omega) | (simp_all [-List.getD_eq_getElem?_getD] <;> omega))
end Go.Proofs.YtnheodgffackoaaDoor.E

/- Package hall: steps, from box to box: written by gstep2.py out of XPstqh. -/
namespace Go.Proofs.YtnheodgffackoaaDoor.E
set_option linter.unusedSimpArgs false
set_option linter.unusedVariables false
open Go Go.Proofs.YtnheodgffackoaaDoor.Y
set_option maxRecDepth 100000
set_option maxHeartbeats 4000000
theorem lft_askA (V : HV) (hV : V.Ok) (h : HH) (w st : Nat) (c : Cl) (hw : c.who < V.n) (x : Int) (hx : h.m.get ((V.b + 1 + c.who + 2 * V.n : Nat) : Int) = x) (hst : st ≤ 1000000000) {u : Value} {ms : List BMem} {i T : Nat} (hi : ms[i]? = some (u, callOs V w st { c with pc := .askA })) : Tri En 14 [.raw u] (hlBox V T ms h) (.bl false) (hlClosed V T (ms.set i (u, callOs V w (st + 1) ({ c with wA := x, pc := .askB }))) ((h.mem (h.m.acc 1 ((V.b + 1 + c.who + 2 * V.n : Nat) : Int))))) := by
  have t := stp_askA T (BoxP (ms.set i (u, []))) V hV h w st c hw x hx hst
  obtain ⟨b, n, t0, o⟩ := V
  cases o
  all_goals
    refine step_lift hi (bl_any _) t rfl ?_
    show Yes _
    repeat' apply And.intro
    (all_goals first | rfl | assumption | trivial | omega | (simp [-List.getD_eq_getElem?_getD] <;> omega) | (simp (disch := omega) only [w64, wu64] <;> omega) | (simp (disch := omega) [-List.getD_eq_getElem?_getD, List.getD_cons_zero, List.getD_cons_succ, kCast_self, dfl_pair, dfl_int, w64, wu64] <;> omega) | (rw [Bool.eq_iff_iff]; simp (disch := omega) [-List.getD_eq_getElem?_getD, List.getD_cons_zero, List.getD_cons_succ, kCast_self, dfl_pair, dfl_int, w64, wu64] <;> omega) | (simp_all [-List.getD_eq_getElem?_getD] <;> omega))
theorem lft_askB_next (V : HV) (hV : V.Ok) (h : HH) (w st : Nat) (c : Cl) (hw : c.who < V.n) (hc : c.cp.length = V.R) (hok : obOk V.o (c.cp.take (obW V.o))) (hd : c.done.length ≤ 900) (y : Int) (hy : h.m.get ((V.b + 1 + c.who + 3 * V.n : Nat) : Int) = y) (hw1 : c.who + 1 < V.n) (hst : st ≤ 1000000000) {u : Value} {ms : List BMem} {i T : Nat} (hi : ms[i]? = some (u, callOs V w st { c with pc := .askB })) : Tri En 14 [.raw u] (hlBox V T ms h) (.bl false) (hlClosed V T (ms.set i (u, callOs V w (st + 1) ({ askC c y V with who := c.who + 1, pc := .ask }))) ((h.mem (h.m.acc 1 ((V.b + 1 + c.who + 3 * V.n : Nat) : Int))))) := by
  have t := stp_askB_next T (BoxP (ms.set i (u, []))) V hV h w st c hw hc hok hd y hy hw1 hst
  obtain ⟨b, n, t0, o⟩ := V
  cases o
  all_goals
    refine step_lift hi (bl_any _) t rfl ?_
    show Yes _
    repeat' apply And.intro
    (all_goals first | rfl | assumption | trivial | omega | (simp [-List.getD_eq_getElem?_getD] <;> omega) | (simp (disch := omega) only [w64, wu64] <;> omega) | (simp (disch := omega) [-List.getD_eq_getElem?_getD, List.getD_cons_zero, List.getD_cons_succ, kCast_self, dfl_pair, dfl_int, w64, wu64] <;> omega) | (rw [Bool.eq_iff_iff]; simp (disch := omega) [-List.getD_eq_getElem?_getD, List.getD_cons_zero, List.getD_cons_succ, kCast_self, dfl_pair, dfl_int, w64, wu64] <;> omega) | (simp_all [-List.getD_eq_getElem?_getD] <;> omega))
theorem lft_askB_helped (V : HV) (hV : V.Ok) (h : HH) (w st : Nat) (c : Cl) (hw : c.who < V.n) (hc : c.cp.length = V.R) (hok : obOk V.o (c.cp.take (obW V.o))) (hd : c.done.length ≤ 900) (y : Int) (hy : h.m.get ((V.b + 1 + c.who + 3 * V.n : Nat) : Int) = y) (hw1 : ¬ c.who + 1 < V.n) (hh : c.helped = true) (hst : st ≤ 1000000000) {u : Value} {ms : List BMem} {i T : Nat} (hi : ms[i]? = some (u, callOs V w st { c with pc := .askB })) : Tri En 14 [.raw u] (hlBox V T ms h) (.bl false) (hlClosed V T (ms.set i (u, callOs V w (st + 1) ({ askC c y V with who := c.who + 1, pc := .scanning, used := [], pos := 0 }))) ((h.mem (h.m.acc 1 ((V.b + 1 + c.who + 3 * V.n : Nat) : Int))))) := by
  have t := stp_askB_helped T (BoxP (ms.set i (u, []))) V hV h w st c hw hc hok hd y hy hw1 hh hst
  obtain ⟨b, n, t0, o⟩ := V
  cases o
  all_goals
    refine step_lift hi (bl_any _) t rfl ?_
    show Yes _
    repeat' apply And.intro
    (all_goals first | rfl | assumption | trivial | omega | (simp [-List.getD_eq_getElem?_getD] <;> omega) | (simp (disch := omega) only [w64, wu64] <;> omega) | (simp (disch := omega) [-List.getD_eq_getElem?_getD, List.getD_cons_zero, List.getD_cons_succ, kCast_self, dfl_pair, dfl_int, w64, wu64] <;> omega) | (rw [Bool.eq_iff_iff]; simp (disch := omega) [-List.getD_eq_getElem?_getD, List.getD_cons_zero, List.getD_cons_succ, kCast_self, dfl_pair, dfl_int, w64, wu64] <;> omega) | (simp_all [-List.getD_eq_getElem?_getD] <;> omega))
theorem lft_askB_own (V : HV) (hV : V.Ok) (h : HH) (w st : Nat) (c : Cl) (hw : c.who < V.n) (hc : c.cp.length = V.R) (hok : obOk V.o (c.cp.take (obW V.o))) (hd : c.done.length ≤ 900) (y : Int) (hy : h.m.get ((V.b + 1 + c.who + 3 * V.n : Nat) : Int) = y) (hw1 : ¬ c.who + 1 < V.n) (hh : c.helped = false) (hst : st ≤ 1000000000) {u : Value} {ms : List BMem} {i T : Nat} (hi : ms[i]? = some (u, callOs V w st { c with pc := .askB })) : Tri En 14 [.raw u] (hlBox V T ms h) (.bl false) (hlClosed V T (ms.set i (u, callOs V w (st + 1) ({ doneC { askC c y V with who := c.who + 1 } w c.op V.o with ans := (apV V.o (askC c y V).cp c.op).2, pc := .scanning, used := [], pos := 0 }))) ((h.mem (h.m.acc 1 ((V.b + 1 + c.who + 3 * V.n : Nat) : Int))))) := by
  have t := stp_askB_own T (BoxP (ms.set i (u, []))) V hV h w st c hw hc hok hd y hy hw1 hh hst
  obtain ⟨b, n, t0, o⟩ := V
  cases o
  all_goals
    refine step_lift hi (bl_any _) t rfl ?_
    show Yes _
    repeat' apply And.intro
    (all_goals first | rfl | assumption | trivial | omega | (simp [-List.getD_eq_getElem?_getD] <;> omega) | (simp (disch := omega) only [w64, wu64] <;> omega) | (simp (disch := omega) [-List.getD_eq_getElem?_getD, List.getD_cons_zero, List.getD_cons_succ, kCast_self, dfl_pair, dfl_int, w64, wu64] <;> omega) | (rw [Bool.eq_iff_iff]; simp (disch := omega) [-List.getD_eq_getElem?_getD, List.getD_cons_zero, List.getD_cons_succ, kCast_self, dfl_pair, dfl_int, w64, wu64] <;> omega) | (simp_all [-List.getD_eq_getElem?_getD] <;> omega))
end Go.Proofs.YtnheodgffackoaaDoor.E
