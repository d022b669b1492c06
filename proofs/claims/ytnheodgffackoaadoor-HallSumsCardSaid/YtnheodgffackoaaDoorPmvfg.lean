/- Several texts in one. -/
import Derived.Test.YtnheodgffackoaaDoorPmvae
/- Package hall: behind all workers, what it wants itself. -/
namespace Go.Proofs.YtnheodgffackoaaDoor.E
set_option linter.unusedSimpArgs false
set_option linter.unusedVariables false
open Go Go.Proofs.YtnheodgffackoaaDoor.Y
set_option maxRecDepth 100000
set_option maxHeartbeats 4000000
theorem call_turn_own (V : HV) (hV : V.Ok) (h : HH) (w st : Nat) (c : Cl) (hw : ¬ c.who + 1 < V.n) (hw2 : c.who < V.n) (hh : c.helped = false) (hc : c.cp.length = V.R) (hok : obOk V.o (c.cp.take (obW V.o))) (hd : c.done.length ≤ 1000) :
    Tri En 70 [.ptr 0 0 0] ((clC w st c (fAsk 8 9 (phA c) .any c) :: hlO V h) ++ [recT c, doneT c]) (fnA 74)
      ((clC w st { doneC { c with who := c.who + 1 } w c.op V.o with ans := (apV V.o c.cp c.op).2, pc := .scanning, used := [], pos := 0 } (fScan 8 10 11 (doneC c w c.op V.o)) :: hlO V h) ++ [recT (doneC c w c.op V.o), .gone, doneT (doneC c w c.op V.o), scC 2 12 V w { c with used := [], pos := 0 }, tagsT []]) := by
  have n1 := hV.n1
  have f1 := fr_held' hV
  have a1 := call_apply V hV h w st { c with who := c.who + 1 } hc hok hd w c.op
  have hml : (c.done.map dnE).length = c.done.length := List.length_map _
  unfold fAsk fScan phA recT doneT scC doneC at *
  simp only at a1 ⊢
  generalize c.done.map dnE = D at *
  generalize (c.done ++ [(w, c.op, (apV V.o c.cp c.op).2)]).map dnE = D2 at *
  generalize (c.done ++ [(w, c.op, (apV V.o c.cp c.op).2)]).length = k2 at *
  generalize (apV V.o c.cp c.op).1 = X at *
  generalize (apV V.o c.cp c.op).2 = A at *
  generalize wRf c.href = z at *
  have s1 := scan_new h.m ((V.b + 1 + 0 : Nat) : Int) V.n w (sideC w c.href : Nat)
  rw [show max (V.n : Int) 0 = ((V.n - 0 : Nat) : Int) by omega] at s1
  have sc := sideC_cases w c.href
  generalize sideC w c.href = q at *
  clear hok hc hd
  obtain ⟨b, n, t, o⟩ := V
  simp only at hw n1 f1 s1 hw2 ⊢
  unfold opA at a1
  rcases sc with ⟨h1, h2, rfl⟩ | ⟨h1, h2, rfl⟩ | ⟨h1, rfl⟩
  · cases o
    all_goals
      refine Tri.of Tryd.func70 rfl Tryd.call70 rfl ?_
      refine Goods.fin 2000 [.b false, .b true, .c (.of a1), .s 51 (some true) true true, .s 58 (some true) true true, .k 75 (.of f1), .k 89 (.of s1)] mixed Tryd.func70 ?_
      show Yes _
      repeat' apply And.intro
      (all_goals first | rfl | assumption | trivial | omega | (simp [-List.getD_eq_getElem?_getD] <;> omega) | (simp (disch := omega) only [w64, wu64] <;> omega) | (simp (disch := omega) [-List.getD_eq_getElem?_getD, List.getD_cons_zero, List.getD_cons_succ, kCast_self, dfl_pair, dfl_int, w64, wu64] <;> omega) | (rw [Bool.eq_iff_iff]; simp (disch := omega) [-List.getD_eq_getElem?_getD, List.getD_cons_zero, List.getD_cons_succ, kCast_self, dfl_pair, dfl_int, w64, wu64] <;> omega) | (simp_all [-List.getD_eq_getElem?_getD] <;> omega))
  · cases o
    all_goals
      refine Tri.of Tryd.func70 rfl Tryd.call70 rfl ?_
      refine Goods.fin 2000 [.b false, .b true, .c (.of a1), .s 51 (some true) true true, .s 58 (some false) true true, .k 75 (.of f1), .k 89 (.of s1)] mixed Tryd.func70 ?_
      show Yes _
      repeat' apply And.intro
      (all_goals first | rfl | assumption | trivial | omega | (simp [-List.getD_eq_getElem?_getD] <;> omega) | (simp (disch := omega) only [w64, wu64] <;> omega) | (simp (disch := omega) [-List.getD_eq_getElem?_getD, List.getD_cons_zero, List.getD_cons_succ, kCast_self, dfl_pair, dfl_int, w64, wu64] <;> omega) | (rw [Bool.eq_iff_iff]; simp (disch := omega) [-List.getD_eq_getElem?_getD, List.getD_cons_zero, List.getD_cons_succ, kCast_self, dfl_pair, dfl_int, w64, wu64] <;> omega) | (simp_all [-List.getD_eq_getElem?_getD] <;> omega))
  · cases o
    all_goals
      refine Tri.of Tryd.func70 rfl Tryd.call70 rfl ?_
      refine Goods.fin 2000 [.b false, .b true, .c (.of a1), .s 51 (some false) true true, .k 75 (.of f1), .k 89 (.of s1)] mixed Tryd.func70 ?_
      show Yes _
      repeat' apply And.intro
      (all_goals first | rfl | assumption | trivial | omega | (simp [-List.getD_eq_getElem?_getD] <;> omega) | (simp (disch := omega) only [w64, wu64] <;> omega) | (simp (disch := omega) [-List.getD_eq_getElem?_getD, List.getD_cons_zero, List.getD_cons_succ, kCast_self, dfl_pair, dfl_int, w64, wu64] <;> omega) | (rw [Bool.eq_iff_iff]; simp (disch := omega) [-List.getD_eq_getElem?_getD, List.getD_cons_zero, List.getD_cons_succ, kCast_self, dfl_pair, dfl_int, w64, wu64] <;> omega) | (simp_all [-List.getD_eq_getElem?_getD] <;> omega))
end Go.Proofs.YtnheodgffackoaaDoor.E

/- Package hall: the moves: does a worker want something? -/
namespace Go.Proofs.YtnheodgffackoaaDoor.E
set_option linter.unusedSimpArgs false
set_option linter.unusedVariables false
open Go Go.Proofs.YtnheodgffackoaaDoor.Y
set_option maxRecDepth 100000
set_option maxHeartbeats 4000000
theorem fr_asked' {V : HV} (hV : V.Ok) {q : Nat} (hq : q < V.n) : Tri En 53 [frA V.b (obW V.o : Nat) V.n, .int .i64 q] [] (.int .i64 ((V.b + 1 + q + V.n : Nat) : Int)) [] := by
  have n1 := hV.n1
  have := fr_asked hV.fr (i := q) (by omega) (by omega)
  rw [show (V.b : Int) + 1 + q + V.n = ((V.b + 1 + q + V.n : Nat) : Int) by omega] at this
  exact this
theorem fr_a' {V : HV} (hV : V.Ok) {q : Nat} (hq : q < V.n) : Tri En 46 [frA V.b (obW V.o : Nat) V.n, .int .i64 q] [] (.int .i64 ((V.b + 1 + q + 2 * V.n : Nat) : Int)) [] := by
  have n1 := hV.n1
  have := fr_a hV.fr (i := q) (by omega) (by omega)
  rw [show (V.b : Int) + 1 + q + 2 * V.n = ((V.b + 1 + q + 2 * V.n : Nat) : Int) by omega] at this
  exact this
theorem fr_b' {V : HV} (hV : V.Ok) {q : Nat} (hq : q < V.n) : Tri En 54 [frA V.b (obW V.o : Nat) V.n, .int .i64 q] [] (.int .i64 ((V.b + 1 + q + 3 * V.n : Nat) : Int)) [] := by
  have n1 := hV.n1
  have := fr_b hV.fr (i := q) (by omega) (by omega)
  rw [show (V.b : Int) + 1 + q + 3 * V.n = ((V.b + 1 + q + 3 * V.n : Nat) : Int) by omega] at this
  exact this
theorem mv_ask (V : HV) (hV : V.Ok) (h : HH) (w st : Nat) (c : Cl) (hw : c.who < V.n) (hc : c.cp.length = V.R) (x : Int) (hx : h.m.get ((V.b + 1 + c.who + V.n : Nat) : Int) = x) (hne : ¬ x = c.cp.getD (V.dn c.who) 0) :
    Tri En 66 [.ptr 0 0 0] ((clC w st c (fAsk 8 9 .any .any c) :: hlO V h) ++ [recT c, doneT c]) (fnA 71)
      ((clC w st { c with phase := x, pc := .askA } (fAsk 8 9 (.int .u64 x) .any c) :: hlO V (h.mem (h.m.acc 1 ((V.b + 1 + c.who + V.n : Nat) : Int)))) ++ [recT c, doneT c]) := by
  have f1 := fr_asked' hV hw
  have f2 := fr_done' hV hw
  have l1 := mem_load h.m ((V.b + 1 + c.who + V.n : Nat) : Int)
  rw [hx] at l1
  have d1 := HV.dn_le hV hw
  have r1 := HV.R_le hV
  generalize V.b + 1 + c.who + V.n = A at *
  unfold fAsk recT doneT
  have hml : (c.done.map dnE).length = c.done.length := List.length_map _
  generalize c.done.map dnE = D at *
  generalize wRf c.href = z at *
  have g1 : (x == c.cp.getD (V.dn c.who) 0) = false := by simpa using hne
  generalize V.dn c.who = d at *
  generalize V.R = R at *
  obtain ⟨b, n, t, o⟩ := V
  cases o
  all_goals
    refine Tri.of Tryd.func66 rfl Tryd.call66 rfl ?_
    refine Goods.fin 2000 [.k 22 (.of f1), .c (.of l1), .k 45 (.of f2), .b false] mixed Tryd.func66 ?_
    show Yes _
    repeat' apply And.intro
    all_goals try exact g1
    (all_goals first | rfl | assumption | trivial | omega | (simp [-List.getD_eq_getElem?_getD, hc] <;> omega) | (simp (disch := omega) only [w64, wu64] <;> omega) | (simp (disch := omega) [-List.getD_eq_getElem?_getD, List.getD_cons_zero, List.getD_cons_succ, kCast_self, dfl_pair, dfl_int, w64, wu64, hc] <;> omega) | (rw [Bool.eq_iff_iff]; simp (disch := omega) [-List.getD_eq_getElem?_getD, List.getD_cons_zero, List.getD_cons_succ, kCast_self, dfl_pair, dfl_int, w64, wu64, hc] <;> omega) | (simp_all [-List.getD_eq_getElem?_getD] <;> omega))
theorem mv_ask_next (V : HV) (hV : V.Ok) (h : HH) (w st : Nat) (c : Cl) (hw : c.who < V.n) (hc : c.cp.length = V.R) (x : Int) (hx : h.m.get ((V.b + 1 + c.who + V.n : Nat) : Int) = x) (hne : x = c.cp.getD (V.dn c.who) 0) (hw1 : c.who + 1 < V.n) :
    Tri En 66 [.ptr 0 0 0] ((clC w st c (fAsk 8 9 .any .any c) :: hlO V h) ++ [recT c, doneT c]) (fnA 66)
      (((clC w st { c with phase := x, who := c.who + 1, pc := .ask } (fAsk 8 9 .any .any { c with who := c.who + 1 })) :: hlO V (h.mem (h.m.acc 1 ((V.b + 1 + c.who + V.n : Nat) : Int)))) ++ [recT c, doneT c]) := by
  have f1 := fr_asked' hV hw
  have f2 := fr_done' hV hw
  have l1 := mem_load h.m ((V.b + 1 + c.who + V.n : Nat) : Int)
  rw [hx] at l1
  have d1 := HV.dn_le hV hw
  have r1 := HV.R_le hV
  have t1 := call_turn_next V hV (h.mem (h.m.acc 1 ((V.b + 1 + c.who + V.n : Nat) : Int))) w st { c with phase := x } hw1
  unfold phA at t1
  generalize V.b + 1 + c.who + V.n = A at *
  have hml : (c.done.map dnE).length = c.done.length := List.length_map _
  simp only [fAsk, fScan, recT, doneT, scC, doneC] at t1 ⊢
  generalize (c.done ++ [(w, c.op, (apV V.o c.cp c.op).2)]).map dnE = D2 at *
  generalize (c.done ++ [(w, c.op, (apV V.o c.cp c.op).2)]).length = k2 at *
  generalize (apV V.o c.cp c.op).1 = X at *
  generalize (apV V.o c.cp c.op).2 = A2 at *
  generalize c.done.map dnE = D at *
  generalize wRf c.href = z at *
  have g1 : (x == c.cp.getD (V.dn c.who) 0) = true := by simpa using hne
  clear hne
  generalize V.dn c.who = d at *
  generalize V.R = R at *
  generalize sideC w c.href = sd at *
  obtain ⟨b, n, t, o⟩ := V
  simp only at hc hw t1 f1 f2 ⊢
  cases o
  all_goals
    refine Tri.of Tryd.func66 rfl Tryd.call66 rfl ?_
    refine Goods.fin 2000 [.k 22 (.of f1), .c (.of l1), .k 45 (.of f2), .b true, .c (.of t1)] mixed Tryd.func66 ?_
    show Yes _
    repeat' apply And.intro
    all_goals try exact g1
    (all_goals first | rfl | assumption | trivial | omega | (simp [-List.getD_eq_getElem?_getD, hc] <;> omega) | (simp (disch := omega) only [w64, wu64] <;> omega) | (simp (disch := omega) [-List.getD_eq_getElem?_getD, List.getD_cons_zero, List.getD_cons_succ, kCast_self, dfl_pair, dfl_int, w64, wu64, hc] <;> omega) | (rw [Bool.eq_iff_iff]; simp (disch := omega) [-List.getD_eq_getElem?_getD, List.getD_cons_zero, List.getD_cons_succ, kCast_self, dfl_pair, dfl_int, w64, wu64, hc] <;> omega) | (simp_all [-List.getD_eq_getElem?_getD] <;> omega))
theorem mv_ask_helped (V : HV) (hV : V.Ok) (h : HH) (w st : Nat) (c : Cl) (hw : c.who < V.n) (hc : c.cp.length = V.R) (x : Int) (hx : h.m.get ((V.b + 1 + c.who + V.n : Nat) : Int) = x) (hne : x = c.cp.getD (V.dn c.who) 0) (hw1 : ¬ c.who + 1 < V.n) (hh : c.helped = true) :
    Tri En 66 [.ptr 0 0 0] ((clC w st c (fAsk 8 9 .any .any c) :: hlO V h) ++ [recT c, doneT c]) (fnA 74)
      (((clC w st { c with phase := x, who := c.who + 1, pc := .scanning, used := [], pos := 0 } (fScan 8 9 10 c)) :: hlO V (h.mem (h.m.acc 1 ((V.b + 1 + c.who + V.n : Nat) : Int)))) ++ [recT c, doneT c, scC 2 11 V w { c with used := [], pos := 0 }, tagsT []]) := by
  have f1 := fr_asked' hV hw
  have f2 := fr_done' hV hw
  have l1 := mem_load h.m ((V.b + 1 + c.who + V.n : Nat) : Int)
  rw [hx] at l1
  have d1 := HV.dn_le hV hw
  have r1 := HV.R_le hV
  have t1 := call_turn_helped V hV (h.mem (h.m.acc 1 ((V.b + 1 + c.who + V.n : Nat) : Int))) w st { c with phase := x } hw1 hw hh
  unfold phA at t1
  generalize V.b + 1 + c.who + V.n = A at *
  have hml : (c.done.map dnE).length = c.done.length := List.length_map _
  simp only [fAsk, fScan, recT, doneT, scC, doneC] at t1 ⊢
  generalize (c.done ++ [(w, c.op, (apV V.o c.cp c.op).2)]).map dnE = D2 at *
  generalize (c.done ++ [(w, c.op, (apV V.o c.cp c.op).2)]).length = k2 at *
  generalize (apV V.o c.cp c.op).1 = X at *
  generalize (apV V.o c.cp c.op).2 = A2 at *
  generalize c.done.map dnE = D at *
  generalize wRf c.href = z at *
  have g1 : (x == c.cp.getD (V.dn c.who) 0) = true := by simpa using hne
  clear hne
  generalize V.dn c.who = d at *
  generalize V.R = R at *
  generalize sideC w c.href = sd at *
  obtain ⟨b, n, t, o⟩ := V
  simp only at hc hw t1 f1 f2 ⊢
  cases o
  all_goals
    refine Tri.of Tryd.func66 rfl Tryd.call66 rfl ?_
    refine Goods.fin 2000 [.k 22 (.of f1), .c (.of l1), .k 45 (.of f2), .b true, .c (.of t1)] mixed Tryd.func66 ?_
    show Yes _
    repeat' apply And.intro
    all_goals try exact g1
    (all_goals first | rfl | assumption | trivial | omega | (simp [-List.getD_eq_getElem?_getD, hc] <;> omega) | (simp (disch := omega) only [w64, wu64] <;> omega) | (simp (disch := omega) [-List.getD_eq_getElem?_getD, List.getD_cons_zero, List.getD_cons_succ, kCast_self, dfl_pair, dfl_int, w64, wu64, hc] <;> omega) | (rw [Bool.eq_iff_iff]; simp (disch := omega) [-List.getD_eq_getElem?_getD, List.getD_cons_zero, List.getD_cons_succ, kCast_self, dfl_pair, dfl_int, w64, wu64, hc] <;> omega) | (simp_all [-List.getD_eq_getElem?_getD] <;> omega))
theorem mv_ask_own (V : HV) (hV : V.Ok) (h : HH) (w st : Nat) (c : Cl) (hw : c.who < V.n) (hc : c.cp.length = V.R) (x : Int) (hx : h.m.get ((V.b + 1 + c.who + V.n : Nat) : Int) = x) (hne : x = c.cp.getD (V.dn c.who) 0) (hw1 : ¬ c.who + 1 < V.n) (hh : c.helped = false) (hok : obOk V.o (c.cp.take (obW V.o))) (hd : c.done.length ≤ 1000) :
    Tri En 66 [.ptr 0 0 0] ((clC w st c (fAsk 8 9 .any .any c) :: hlO V h) ++ [recT c, doneT c]) (fnA 74)
      (((clC w st { doneC { c with phase := x, who := c.who + 1 } w c.op V.o with ans := (apV V.o c.cp c.op).2, pc := .scanning, used := [], pos := 0 } (fScan 8 10 11 (doneC c w c.op V.o))) :: hlO V (h.mem (h.m.acc 1 ((V.b + 1 + c.who + V.n : Nat) : Int)))) ++ [recT (doneC c w c.op V.o), .gone, doneT (doneC c w c.op V.o), scC 2 12 V w { c with used := [], pos := 0 }, tagsT []]) := by
  have f1 := fr_asked' hV hw
  have f2 := fr_done' hV hw
  have l1 := mem_load h.m ((V.b + 1 + c.who + V.n : Nat) : Int)
  rw [hx] at l1
  have d1 := HV.dn_le hV hw
  have r1 := HV.R_le hV
  have t1 := call_turn_own V hV (h.mem (h.m.acc 1 ((V.b + 1 + c.who + V.n : Nat) : Int))) w st { c with phase := x } hw1 hw hh hc hok hd
  unfold phA at t1
  generalize V.b + 1 + c.who + V.n = A at *
  have hml : (c.done.map dnE).length = c.done.length := List.length_map _
  simp only [fAsk, fScan, recT, doneT, scC, doneC] at t1 ⊢
  generalize (c.done ++ [(w, c.op, (apV V.o c.cp c.op).2)]).map dnE = D2 at *
  generalize (c.done ++ [(w, c.op, (apV V.o c.cp c.op).2)]).length = k2 at *
  generalize (apV V.o c.cp c.op).1 = X at *
  generalize (apV V.o c.cp c.op).2 = A2 at *
  generalize c.done.map dnE = D at *
  generalize wRf c.href = z at *
  have g1 : (x == c.cp.getD (V.dn c.who) 0) = true := by simpa using hne
  clear hne
  generalize V.dn c.who = d at *
  generalize V.R = R at *
  generalize sideC w c.href = sd at *
  obtain ⟨b, n, t, o⟩ := V
  simp only at hc hw t1 f1 f2 ⊢
  cases o
  all_goals
    refine Tri.of Tryd.func66 rfl Tryd.call66 rfl ?_
    refine Goods.fin 2000 [.k 22 (.of f1), .c (.of l1), .k 45 (.of f2), .b true, .c (.of t1)] mixed Tryd.func66 ?_
    show Yes _
    repeat' apply And.intro
    all_goals try exact g1
    (all_goals first | rfl | assumption | trivial | omega | (simp [-List.getD_eq_getElem?_getD, hc] <;> omega) | (simp (disch := omega) only [w64, wu64] <;> omega) | (simp (disch := omega) [-List.getD_eq_getElem?_getD, List.getD_cons_zero, List.getD_cons_succ, kCast_self, dfl_pair, dfl_int, w64, wu64, hc] <;> omega) | (rw [Bool.eq_iff_iff]; simp (disch := omega) [-List.getD_eq_getElem?_getD, List.getD_cons_zero, List.getD_cons_succ, kCast_self, dfl_pair, dfl_int, w64, wu64, hc] <;> omega) | (simp_all [-List.getD_eq_getElem?_getD] <;> omega))
end Go.Proofs.YtnheodgffackoaaDoor.E
