/- Several texts in one. -/
import Derived.Test.YtnheodgffackoaaDoorPmvik
/- Package hall: steps, by the moves: written by gstep.py out of XPmvk. -/
namespace Go.Proofs.YtnheodgffackoaaDoor.E
set_option linter.unusedSimpArgs false
set_option linter.unusedVariables false
open Go Go.Proofs.YtnheodgffackoaaDoor.Y
set_option maxRecDepth 100000
set_option maxHeartbeats 4000000
theorem stp_swing (T : Nat) (Q : List Loc → World → Nat → Prop) (V : HV) (hV : V.Ok) (h : HH) (w st : Nat) (hw : w < V.n) (c : Cl) (hc : c.cp.length = V.R) (hd : c.done.length ≤ 1000) (he : h.es.length ≤ 100000000) (hin : h.m.inr V.b) (hr : h.m.get V.b = (wRf c.href : Nat)) (ht : c.tag ≤ V.n) (hst : st ≤ 1000000000) : Tri En 14 [.ptr 9 0 0] ((.gone :: hlO V h) ++ .box T [1, 2] Q :: [clN 1 (fnA 82) w st c (fLay 10 11 .any w c), recT c, doneT c]) (.bl true) ((.gone :: hlOe V (h.mem ((h.m.acc 4 V.b).put V.b (wRf (c.to w) : Nat))) 12 (h.es.length + c.done.length)) ++ .box T [1, 2] Q :: [clN 1 .nilfunc w (st + 1) { c with pc := .over, ans := if c.helped = true then (slot3 c.cp (V.dn w)).2 else c.ans } fBase, .gone, .gone, .tab true EntK (h.es ++ c.done.map (entE (inc h.m.ops)))]) := by
  have t1 := mv_swing V hV h w (st + 1) hw c hc hd he hin hr ht
  obtain ⟨b, n, t, o⟩ := V
  cases o
  all_goals
    refine Tri.of Tryd.func14 rfl Tryd.call14 rfl ?_
    refine Goods.fin 2000 [.c (.of t1)] mixed Tryd.func14 ?_
    show Yes _
    repeat' apply And.intro
    (all_goals first | rfl | assumption | trivial | omega | (simp [-List.getD_eq_getElem?_getD] <;> omega) | (simp (disch := omega) only [w64, wu64] <;> omega) | (simp (disch := omega) [-List.getD_eq_getElem?_getD, List.getD_cons_zero, List.getD_cons_succ, kCast_self, dfl_pair, dfl_int, w64, wu64] <;> omega) | (rw [Bool.eq_iff_iff]; simp (disch := omega) [-List.getD_eq_getElem?_getD, List.getD_cons_zero, List.getD_cons_succ, kCast_self, dfl_pair, dfl_int, w64, wu64] <;> omega) | (simp_all [-List.getD_eq_getElem?_getD] <;> omega))
theorem stp_swing_no (T : Nat) (Q : List Loc → World → Nat → Prop) (V : HV) (hV : V.Ok) (h : HH) (w st : Nat) (hw : w < V.n) (c : Cl) (hl : 1 ≤ c.left) (hl2 : c.left ≤ 1000) (hin : h.m.inr V.b) (hr : h.m.get V.b ≠ (wRf c.href : Nat)) (ht : c.tag ≤ V.n) (hst : st ≤ 1000000000) : Tri En 14 [.ptr 9 0 0] ((.gone :: hlO V h) ++ .box T [1, 2] Q :: [clN 1 (fnA 82) w st c (fLay 10 11 .any w c), recT c, doneT c]) (.bl false) ((.gone :: hlO V (h.mem (h.m.acc 4 V.b))) ++ .box T [1, 2] Q :: [clN 1 (fnA (failF c)) w (st + 1) (failC c) fBase, .gone, .gone]) := by
  have t1 := mv_swing_no V hV h w (st + 1) hw c hl hl2 hin hr ht
  rcases failF_cases c with e | e | e <;> rw [e] at t1 ⊢
  all_goals
    obtain ⟨b, n, t, o⟩ := V
    cases o
    all_goals
      refine Tri.of Tryd.func14 rfl Tryd.call14 rfl ?_
      refine Goods.fin 2000 [.c (.of t1)] mixed Tryd.func14 ?_
      show Yes _
      repeat' apply And.intro
      (all_goals first | rfl | assumption | trivial | omega | (simp [-List.getD_eq_getElem?_getD] <;> omega) | (simp (disch := omega) only [w64, wu64] <;> omega) | (simp (disch := omega) [-List.getD_eq_getElem?_getD, List.getD_cons_zero, List.getD_cons_succ, kCast_self, dfl_pair, dfl_int, w64, wu64] <;> omega) | (rw [Bool.eq_iff_iff]; simp (disch := omega) [-List.getD_eq_getElem?_getD, List.getD_cons_zero, List.getD_cons_succ, kCast_self, dfl_pair, dfl_int, w64, wu64] <;> omega) | (simp_all [-List.getD_eq_getElem?_getD] <;> omega))
end Go.Proofs.YtnheodgffackoaaDoor.E

/- Package hall: steps, from box to box: written by gstep2.py out of XPstqk. -/
namespace Go.Proofs.YtnheodgffackoaaDoor.E
set_option linter.unusedSimpArgs false
set_option linter.unusedVariables false
open Go Go.Proofs.YtnheodgffackoaaDoor.Y
set_option maxRecDepth 100000
set_option maxHeartbeats 4000000
theorem lft_swing (V : HV) (hV : V.Ok) (h : HH) (w st : Nat) (hw : w < V.n) (c : Cl) (hc : c.cp.length = V.R) (hd : c.done.length ≤ 1000) (he : h.es.length ≤ 100000000) (hin : h.m.inr V.b) (hr : h.m.get V.b = (wRf c.href : Nat)) (ht : c.tag ≤ V.n) (hst : st ≤ 1000000000) {u : Value} {ms : List BMem} {i T : Nat} (hi : ms[i]? = some (u, callOs V w st { c with pc := .swing })) : Tri En 14 [.raw u] (hlBox V T ms h) (.bl true) (hlClosed V T (ms.set i (u, callOs V w (st + 1) ({ c with pc := .over, ans := if c.helped = true then (slot3 c.cp (V.dn w)).2 else c.ans }))) ({ h with m := (h.m.acc 4 V.b).put V.b (wRf (c.to w) : Nat), es := h.es ++ c.done.map (entE (inc h.m.ops)) })) := by
  have t := stp_swing T (BoxP (ms.set i (u, []))) V hV h w st hw c hc hd he hin hr ht hst
  obtain ⟨b, n, t0, o⟩ := V
  cases o
  all_goals
    refine step_lift hi (bl_any _) t rfl ?_
    show Yes _
    repeat' apply And.intro
    (all_goals first | rfl | assumption | trivial | omega | (simp [-List.getD_eq_getElem?_getD] <;> omega) | (simp (disch := omega) only [w64, wu64] <;> omega) | (simp (disch := omega) [-List.getD_eq_getElem?_getD, List.getD_cons_zero, List.getD_cons_succ, kCast_self, dfl_pair, dfl_int, w64, wu64] <;> omega) | (rw [Bool.eq_iff_iff]; simp (disch := omega) [-List.getD_eq_getElem?_getD, List.getD_cons_zero, List.getD_cons_succ, kCast_self, dfl_pair, dfl_int, w64, wu64] <;> omega) | (simp_all [-List.getD_eq_getElem?_getD] <;> omega))
theorem lft_swing_no (V : HV) (hV : V.Ok) (h : HH) (w st : Nat) (hw : w < V.n) (c : Cl) (hl : 1 ≤ c.left) (hl2 : c.left ≤ 1000) (hin : h.m.inr V.b) (hr : h.m.get V.b ≠ (wRf c.href : Nat)) (ht : c.tag ≤ V.n) (hst : st ≤ 1000000000) {u : Value} {ms : List BMem} {i T : Nat} (hi : ms[i]? = some (u, callOs V w st { c with pc := .swing })) : Tri En 14 [.raw u] (hlBox V T ms h) (.bl false) (hlClosed V T (ms.set i (u, callOs V w (st + 1) ((failC c)))) ((h.mem (h.m.acc 4 V.b)))) := by
  have t := stp_swing_no T (BoxP (ms.set i (u, []))) V hV h w st hw c hl hl2 hin hr ht hst
  rcases failC_cases c with ⟨e1, e2⟩ | ⟨e1, e2⟩ | ⟨e1, e2⟩ <;> rw [e1, e2] at t <;> rw [e1]
  all_goals
    obtain ⟨b, n, t0, o⟩ := V
    cases o
    all_goals
      refine step_lift hi (bl_any _) t rfl ?_
      show Yes _
      repeat' apply And.intro
      (all_goals first | rfl | assumption | trivial | omega | (simp [-List.getD_eq_getElem?_getD] <;> omega) | (simp (disch := omega) only [w64, wu64] <;> omega) | (simp (disch := omega) [-List.getD_eq_getElem?_getD, List.getD_cons_zero, List.getD_cons_succ, kCast_self, dfl_pair, dfl_int, w64, wu64] <;> omega) | (rw [Bool.eq_iff_iff]; simp (disch := omega) [-List.getD_eq_getElem?_getD, List.getD_cons_zero, List.getD_cons_succ, kCast_self, dfl_pair, dfl_int, w64, wu64] <;> omega) | (simp_all [-List.getD_eq_getElem?_getD] <;> omega))
end Go.Proofs.YtnheodgffackoaaDoor.E
