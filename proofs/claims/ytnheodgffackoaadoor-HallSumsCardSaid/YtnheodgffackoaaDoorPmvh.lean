/- Package hall: the moves: what a worker wants is done. -/
import Derived.Test.YtnheodgffackoaaDoorPmvfg
namespace Go.Proofs.YtnheodgffackoaaDoor.E
set_option linter.unusedSimpArgs false
set_option linter.unusedVariables false
open Go Go.Proofs.YtnheodgffackoaaDoor.Y
set_option maxRecDepth 100000
set_option maxHeartbeats 4000000
theorem mv_askA (V : HV) (hV : V.Ok) (h : HH) (w st : Nat) (c : Cl) (hw : c.who < V.n) (x : Int) (hx : h.m.get ((V.b + 1 + c.who + 2 * V.n : Nat) : Int) = x) :
    Tri En 71 [.ptr 0 0 0] ((clC w st c (fAsk 8 9 (phA c) .any c) :: hlO V h) ++ [recT c, doneT c]) (fnA 75)
      ((clC w st { c with wA := x, pc := .askB } (fAsk 8 9 (phA c) (.int .u64 x) c) :: hlO V (h.mem (h.m.acc 1 ((V.b + 1 + c.who + 2 * V.n : Nat) : Int)))) ++ [recT c, doneT c]) := by
  have f1 := fr_a' hV hw
  have l1 := mem_load h.m ((V.b + 1 + c.who + 2 * V.n : Nat) : Int)
  rw [hx] at l1
  generalize V.b + 1 + c.who + 2 * V.n = A at *
  unfold fAsk recT doneT
  have hml : (c.done.map dnE).length = c.done.length := List.length_map _
  generalize c.done.map dnE = D at *
  generalize wRf c.href = z at *
  obtain ⟨b, n, t, o⟩ := V
  cases o
  all_goals
    refine Tri.of Tryd.func71 rfl Tryd.call71 rfl ?_
    refine Goods.fin 2000 [.k 22 (.of f1), .c (.of l1)] mixed Tryd.func71 ?_
    show Yes _
    repeat' apply And.intro
    (all_goals first | rfl | assumption | trivial | omega | (simp [-List.getD_eq_getElem?_getD] <;> omega) | (simp (disch := omega) only [w64, wu64] <;> omega) | (simp (disch := omega) [-List.getD_eq_getElem?_getD, List.getD_cons_zero, List.getD_cons_succ, kCast_self, dfl_pair, dfl_int, w64, wu64] <;> omega) | (rw [Bool.eq_iff_iff]; simp (disch := omega) [-List.getD_eq_getElem?_getD, List.getD_cons_zero, List.getD_cons_succ, kCast_self, dfl_pair, dfl_int, w64, wu64] <;> omega) | (simp_all [-List.getD_eq_getElem?_getD] <;> omega))
/-- The call, when a worker's request is done. -/
def askC (c : Cl) (y : Int) (V : HV) : Cl := { c with cp := put3 (apV V.o c.cp (c.wA, y)).1 (V.dn c.who) c.phase (apV V.o c.cp (c.wA, y)).2, done := c.done ++ [(c.who, (c.wA, y), (apV V.o c.cp (c.wA, y)).2)] }
theorem apV_len {V : HV} {l : List Int} (hok : obOk V.o (l.take (obW V.o))) (hl : l.length = V.R) (q : O2) : (apV V.o l q).1.length = V.R := by
  unfold apV
  have h1 := obOk_len _ _ (obOk_ap _ _ q hok)
  have : obW V.o ≤ V.R := by unfold HV.R; omega
  rw [List.length_append, List.length_drop, h1]; omega
theorem mv_askB_next (V : HV) (hV : V.Ok) (h : HH) (w st : Nat) (c : Cl) (hw : c.who < V.n) (hc : c.cp.length = V.R) (hok : obOk V.o (c.cp.take (obW V.o))) (hd : c.done.length ≤ 900) (y : Int) (hy : h.m.get ((V.b + 1 + c.who + 3 * V.n : Nat) : Int) = y) (hw1 : c.who + 1 < V.n) :
    Tri En 75 [.ptr 0 0 0] ((clC w st c (fAsk 8 9 (phA c) (.int .u64 c.wA) c) :: hlO V h) ++ [recT c, doneT c]) (fnA 66)
      (((clC w st { askC c y V with who := c.who + 1, pc := .ask } (fAsk 8 10 .any .any { askC c y V with who := c.who + 1 })) :: hlO V (h.mem (h.m.acc 1 ((V.b + 1 + c.who + 3 * V.n : Nat) : Int)))) ++ [recT (askC c y V), .gone, doneT (askC c y V)]) := by
  have f1 := fr_b' hV hw
  have f2 := fr_done' hV hw
  have l1 := mem_load h.m ((V.b + 1 + c.who + 3 * V.n : Nat) : Int)
  rw [hy] at l1
  have d1 := HV.dn_le hV hw
  have r1 := HV.R_le hV
  have a1 := call_apply V hV (h.mem (h.m.acc 1 ((V.b + 1 + c.who + 3 * V.n : Nat) : Int))) w st c hc hok (by omega) c.who (c.wA, y)
  have hXl := apV_len (V := V) hok hc (c.wA, y)
  have hc2 : (askC c y V).cp.length = V.R := by simp only [askC]; rw [put3_len]; exact hXl
  have hok2 : obOk V.o ((askC c y V).cp.take (obW V.o)) := by
    have e : (askC c y V).cp.take (obW V.o) = (obAp V.o (c.cp.take (obW V.o)) (c.wA, y)).1 := by
      simp only [askC]
      unfold put3
      have hle : obW V.o ≤ V.dn c.who := by unfold HV.dn; omega
      rw [take_set_ge (by omega), take_set_ge (by omega), take_set_ge hle]
      unfold apV
      have h1 := obOk_len _ _ (obOk_ap _ _ (c.wA, y) hok)
      rw [List.take_append_of_le_length (by omega), List.take_of_length_le (by omega)]
    rw [e]; exact obOk_ap _ _ _ hok
  have hd2 : (askC c y V).done.length ≤ 1000 := by simp [askC]; omega
  have t1 := call_turn_next V hV (h.mem (h.m.acc 1 ((V.b + 1 + c.who + 3 * V.n : Nat) : Int))) w st (askC c y V) hw1
  have hCl := hc2
  clear hok2 hd2 hok
  generalize V.b + 1 + c.who + 3 * V.n = A at *
  have hml : (c.done.map dnE).length = c.done.length := List.length_map _
  simp only [fAsk, fScan, recT, doneT, scC, doneC, askC, phA, opA] at t1 a1 ⊢
  generalize (apV V.o (put3 (apV V.o c.cp (c.wA, y)).1 (V.dn c.who) c.phase (apV V.o c.cp (c.wA, y)).2) c.op).1 = X2 at *
  generalize (apV V.o (put3 (apV V.o c.cp (c.wA, y)).1 (V.dn c.who) c.phase (apV V.o c.cp (c.wA, y)).2) c.op).2 = A3 at *
  generalize (apV V.o c.cp (c.wA, y)).1 = X at *
  generalize (apV V.o c.cp (c.wA, y)).2 = A2 at *
  generalize (c.done ++ [(c.who, (c.wA, y), A2)] ++ [(w, c.op, A3)]).map dnE = D3 at *
  generalize (c.done ++ [(c.who, (c.wA, y), A2)] ++ [(w, c.op, A3)]).length = k3 at *
  generalize (c.done ++ [(c.who, (c.wA, y), A2)]).map dnE = D2 at *
  generalize (c.done ++ [(c.who, (c.wA, y), A2)]).length = k2 at *
  generalize c.done.map dnE = D at *
  generalize wRf c.href = z at *
  simp only [put3, List.length_set] at t1 hCl ⊢
  generalize V.dn c.who = d at *
  have g1 : (IntKind.i64.wrap ((d : Nat) + 1 : Int)).toNat = d + 1 := by rw [w64 (by omega) (by omega)]; omega
  have g2 : (IntKind.i64.wrap ((d : Nat) + 2 : Int)).toNat = d + 2 := by rw [w64 (by omega) (by omega)]; omega
  generalize V.R = R at *
  generalize sideC w c.href = sd at *
  obtain ⟨b, n, t, o⟩ := V
  simp only at hc hw t1 f1 f2 ⊢
  cases o
  all_goals
    refine Tri.of Tryd.func75 rfl Tryd.call75 rfl ?_
    refine Goods.fin 2000 [.k 24 (.of f1), .c (.of l1), .c (.of a1), .k 50 (.of f2), .c (.of t1)] mixed Tryd.func75 ?_
    show Yes _
    repeat' apply And.intro
    (all_goals first | rfl | assumption | trivial | omega | (simp [-List.getD_eq_getElem?_getD, hc, hXl, g1, g2] <;> omega) | (simp (disch := omega) only [w64, wu64] <;> omega) | (simp (disch := omega) [-List.getD_eq_getElem?_getD, List.getD_cons_zero, List.getD_cons_succ, kCast_self, dfl_pair, dfl_int, w64, wu64, hc, hXl, g1, g2] <;> omega) | (rw [Bool.eq_iff_iff]; simp (disch := omega) [-List.getD_eq_getElem?_getD, List.getD_cons_zero, List.getD_cons_succ, kCast_self, dfl_pair, dfl_int, w64, wu64, hc, hXl, g1, g2] <;> omega) | (simp_all [-List.getD_eq_getElem?_getD] <;> omega))
theorem mv_askB_helped (V : HV) (hV : V.Ok) (h : HH) (w st : Nat) (c : Cl) (hw : c.who < V.n) (hc : c.cp.length = V.R) (hok : obOk V.o (c.cp.take (obW V.o))) (hd : c.done.length ≤ 900) (y : Int) (hy : h.m.get ((V.b + 1 + c.who + 3 * V.n : Nat) : Int) = y) (hw1 : ¬ c.who + 1 < V.n) (hh : c.helped = true) :
    Tri En 75 [.ptr 0 0 0] ((clC w st c (fAsk 8 9 (phA c) (.int .u64 c.wA) c) :: hlO V h) ++ [recT c, doneT c]) (fnA 74)
      (((clC w st { askC c y V with who := c.who + 1, pc := .scanning, used := [], pos := 0 } (fScan 8 10 11 (askC c y V))) :: hlO V (h.mem (h.m.acc 1 ((V.b + 1 + c.who + 3 * V.n : Nat) : Int)))) ++ [recT (askC c y V), .gone, doneT (askC c y V), scC 2 12 V w { c with used := [], pos := 0 }, tagsT []]) := by
  have f1 := fr_b' hV hw
  have f2 := fr_done' hV hw
  have l1 := mem_load h.m ((V.b + 1 + c.who + 3 * V.n : Nat) : Int)
  rw [hy] at l1
  have d1 := HV.dn_le hV hw
  have r1 := HV.R_le hV
  have a1 := call_apply V hV (h.mem (h.m.acc 1 ((V.b + 1 + c.who + 3 * V.n : Nat) : Int))) w st c hc hok (by omega) c.who (c.wA, y)
  have hXl := apV_len (V := V) hok hc (c.wA, y)
  have hc2 : (askC c y V).cp.length = V.R := by simp only [askC]; rw [put3_len]; exact hXl
  have hok2 : obOk V.o ((askC c y V).cp.take (obW V.o)) := by
    have e : (askC c y V).cp.take (obW V.o) = (obAp V.o (c.cp.take (obW V.o)) (c.wA, y)).1 := by
      simp only [askC]
      unfold put3
      have hle : obW V.o ≤ V.dn c.who := by unfold HV.dn; omega
      rw [take_set_ge (by omega), take_set_ge (by omega), take_set_ge hle]
      unfold apV
      have h1 := obOk_len _ _ (obOk_ap _ _ (c.wA, y) hok)
      rw [List.take_append_of_le_length (by omega), List.take_of_length_le (by omega)]
    rw [e]; exact obOk_ap _ _ _ hok
  have hd2 : (askC c y V).done.length ≤ 1000 := by simp [askC]; omega
  have t1 := call_turn_helped V hV (h.mem (h.m.acc 1 ((V.b + 1 + c.who + 3 * V.n : Nat) : Int))) w st (askC c y V) hw1 hw hh
  have hCl := hc2
  clear hok2 hd2 hok
  generalize V.b + 1 + c.who + 3 * V.n = A at *
  have hml : (c.done.map dnE).length = c.done.length := List.length_map _
  simp only [fAsk, fScan, recT, doneT, scC, doneC, askC, phA, opA] at t1 a1 ⊢
  generalize (apV V.o (put3 (apV V.o c.cp (c.wA, y)).1 (V.dn c.who) c.phase (apV V.o c.cp (c.wA, y)).2) c.op).1 = X2 at *
  generalize (apV V.o (put3 (apV V.o c.cp (c.wA, y)).1 (V.dn c.who) c.phase (apV V.o c.cp (c.wA, y)).2) c.op).2 = A3 at *
  generalize (apV V.o c.cp (c.wA, y)).1 = X at *
  generalize (apV V.o c.cp (c.wA, y)).2 = A2 at *
  generalize (c.done ++ [(c.who, (c.wA, y), A2)] ++ [(w, c.op, A3)]).map dnE = D3 at *
  generalize (c.done ++ [(c.who, (c.wA, y), A2)] ++ [(w, c.op, A3)]).length = k3 at *
  generalize (c.done ++ [(c.who, (c.wA, y), A2)]).map dnE = D2 at *
  generalize (c.done ++ [(c.who, (c.wA, y), A2)]).length = k2 at *
  generalize c.done.map dnE = D at *
  generalize wRf c.href = z at *
  simp only [put3, List.length_set] at t1 hCl ⊢
  generalize V.dn c.who = d at *
  have g1 : (IntKind.i64.wrap ((d : Nat) + 1 : Int)).toNat = d + 1 := by rw [w64 (by omega) (by omega)]; omega
  have g2 : (IntKind.i64.wrap ((d : Nat) + 2 : Int)).toNat = d + 2 := by rw [w64 (by omega) (by omega)]; omega
  generalize V.R = R at *
  generalize sideC w c.href = sd at *
  obtain ⟨b, n, t, o⟩ := V
  simp only at hc hw t1 f1 f2 ⊢
  cases o
  all_goals
    refine Tri.of Tryd.func75 rfl Tryd.call75 rfl ?_
    refine Goods.fin 2000 [.k 24 (.of f1), .c (.of l1), .c (.of a1), .k 50 (.of f2), .c (.of t1)] mixed Tryd.func75 ?_
    show Yes _
    repeat' apply And.intro
    (all_goals first | rfl | assumption | trivial | omega | (simp [-List.getD_eq_getElem?_getD, hc, hXl, g1, g2] <;> omega) | (simp (disch := omega) only [w64, wu64] <;> omega) | (simp (disch := omega) [-List.getD_eq_getElem?_getD, List.getD_cons_zero, List.getD_cons_succ, kCast_self, dfl_pair, dfl_int, w64, wu64, hc, hXl, g1, g2] <;> omega) | (rw [Bool.eq_iff_iff]; simp (disch := omega) [-List.getD_eq_getElem?_getD, List.getD_cons_zero, List.getD_cons_succ, kCast_self, dfl_pair, dfl_int, w64, wu64, hc, hXl, g1, g2] <;> omega) | (simp_all [-List.getD_eq_getElem?_getD] <;> omega))
theorem mv_askB_own (V : HV) (hV : V.Ok) (h : HH) (w st : Nat) (c : Cl) (hw : c.who < V.n) (hc : c.cp.length = V.R) (hok : obOk V.o (c.cp.take (obW V.o))) (hd : c.done.length ≤ 900) (y : Int) (hy : h.m.get ((V.b + 1 + c.who + 3 * V.n : Nat) : Int) = y) (hw1 : ¬ c.who + 1 < V.n) (hh : c.helped = false) :
    Tri En 75 [.ptr 0 0 0] ((clC w st c (fAsk 8 9 (phA c) (.int .u64 c.wA) c) :: hlO V h) ++ [recT c, doneT c]) (fnA 74)
      (((clC w st { doneC { askC c y V with who := c.who + 1 } w c.op V.o with ans := (apV V.o (askC c y V).cp c.op).2, pc := .scanning, used := [], pos := 0 } (fScan 8 11 12 (doneC (askC c y V) w c.op V.o))) :: hlO V (h.mem (h.m.acc 1 ((V.b + 1 + c.who + 3 * V.n : Nat) : Int)))) ++ [recT (doneC (askC c y V) w c.op V.o), .gone, .gone, doneT (doneC (askC c y V) w c.op V.o), scC 2 13 V w { c with used := [], pos := 0 }, tagsT []]) := by
  have f1 := fr_b' hV hw
  have f2 := fr_done' hV hw
  have l1 := mem_load h.m ((V.b + 1 + c.who + 3 * V.n : Nat) : Int)
  rw [hy] at l1
  have d1 := HV.dn_le hV hw
  have r1 := HV.R_le hV
  have a1 := call_apply V hV (h.mem (h.m.acc 1 ((V.b + 1 + c.who + 3 * V.n : Nat) : Int))) w st c hc hok (by omega) c.who (c.wA, y)
  have hXl := apV_len (V := V) hok hc (c.wA, y)
  have hc2 : (askC c y V).cp.length = V.R := by simp only [askC]; rw [put3_len]; exact hXl
  have hok2 : obOk V.o ((askC c y V).cp.take (obW V.o)) := by
    have e : (askC c y V).cp.take (obW V.o) = (obAp V.o (c.cp.take (obW V.o)) (c.wA, y)).1 := by
      simp only [askC]
      unfold put3
      have hle : obW V.o ≤ V.dn c.who := by unfold HV.dn; omega
      rw [take_set_ge (by omega), take_set_ge (by omega), take_set_ge hle]
      unfold apV
      have h1 := obOk_len _ _ (obOk_ap _ _ (c.wA, y) hok)
      rw [List.take_append_of_le_length (by omega), List.take_of_length_le (by omega)]
    rw [e]; exact obOk_ap _ _ _ hok
  have hd2 : (askC c y V).done.length ≤ 1000 := by simp [askC]; omega
  have t1 := call_turn_own V hV (h.mem (h.m.acc 1 ((V.b + 1 + c.who + 3 * V.n : Nat) : Int))) w st (askC c y V) hw1 hw hh hc2 hok2 hd2
  have hCl := hc2
  clear hok2 hd2 hok
  generalize V.b + 1 + c.who + 3 * V.n = A at *
  have hml : (c.done.map dnE).length = c.done.length := List.length_map _
  simp only [fAsk, fScan, recT, doneT, scC, doneC, askC, phA, opA] at t1 a1 ⊢
  generalize (apV V.o (put3 (apV V.o c.cp (c.wA, y)).1 (V.dn c.who) c.phase (apV V.o c.cp (c.wA, y)).2) c.op).1 = X2 at *
  generalize (apV V.o (put3 (apV V.o c.cp (c.wA, y)).1 (V.dn c.who) c.phase (apV V.o c.cp (c.wA, y)).2) c.op).2 = A3 at *
  generalize (apV V.o c.cp (c.wA, y)).1 = X at *
  generalize (apV V.o c.cp (c.wA, y)).2 = A2 at *
  generalize (c.done ++ [(c.who, (c.wA, y), A2)] ++ [(w, c.op, A3)]).map dnE = D3 at *
  generalize (c.done ++ [(c.who, (c.wA, y), A2)] ++ [(w, c.op, A3)]).length = k3 at *
  generalize (c.done ++ [(c.who, (c.wA, y), A2)]).map dnE = D2 at *
  generalize (c.done ++ [(c.who, (c.wA, y), A2)]).length = k2 at *
  generalize c.done.map dnE = D at *
  generalize wRf c.href = z at *
  simp only [put3, List.length_set] at t1 hCl ⊢
  generalize V.dn c.who = d at *
  have g1 : (IntKind.i64.wrap ((d : Nat) + 1 : Int)).toNat = d + 1 := by rw [w64 (by omega) (by omega)]; omega
  have g2 : (IntKind.i64.wrap ((d : Nat) + 2 : Int)).toNat = d + 2 := by rw [w64 (by omega) (by omega)]; omega
  generalize V.R = R at *
  generalize sideC w c.href = sd at *
  obtain ⟨b, n, t, o⟩ := V
  simp only at hc hw t1 f1 f2 ⊢
  cases o
  all_goals
    refine Tri.of Tryd.func75 rfl Tryd.call75 rfl ?_
    refine Goods.fin 2000 [.k 24 (.of f1), .c (.of l1), .c (.of a1), .k 50 (.of f2), .c (.of t1)] mixed Tryd.func75 ?_
    show Yes _
    repeat' apply And.intro
    (all_goals first | rfl | assumption | trivial | omega | (simp [-List.getD_eq_getElem?_getD, hc, hXl, g1, g2] <;> omega) | (simp (disch := omega) only [w64, wu64] <;> omega) | (simp (disch := omega) [-List.getD_eq_getElem?_getD, List.getD_cons_zero, List.getD_cons_succ, kCast_self, dfl_pair, dfl_int, w64, wu64, hc, hXl, g1, g2] <;> omega) | (rw [Bool.eq_iff_iff]; simp (disch := omega) [-List.getD_eq_getElem?_getD, List.getD_cons_zero, List.getD_cons_succ, kCast_self, dfl_pair, dfl_int, w64, wu64, hc, hXl, g1, g2] <;> omega) | (simp_all [-List.getD_eq_getElem?_getD] <;> omega))
end Go.Proofs.YtnheodgffackoaaDoor.E
