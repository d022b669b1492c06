/- Several texts in one. -/
import Derived.Test.YtnheodgffackoaaDoorPmvae
import Derived.Test.YtnheodgffackoaaDoorPmvfg
import Derived.Test.YtnheodgffackoaaDoorEy
import Derived.Test.YtnheodgffackoaaDoorPmvh
/- Package hall: the moves: the scan, and the record that is laid. -/
namespace Go.Proofs.YtnheodgffackoaaDoor.E
set_option linter.unusedSimpArgs false
set_option linter.unusedVariables false
open Go Go.Proofs.YtnheodgffackoaaDoor.Y
set_option maxRecDepth 100000
set_option maxHeartbeats 4000000
theorem hit_eq (w s : Nat) (used : List Int) (r : Option Rf) (h : ∀ x, r = some x → x.1 < 256 ∧ x.2.1 < 256 ∧ x.2.2 < 4294967296) : hitsU w s used (wRef r : Nat) = used ++ hitC w s r := by
  cases r with
  | none =>
    unfold hitsU wRef hitC
    rw [if_neg (by have := hit_zero w s; simp [this])]
    simp
  | some r =>
    obtain ⟨h0, h1, h2⟩ := h r rfl
    obtain ⟨g0, g1, g2⟩ := get_ref r.1 r.2.1 r.2.2 h0 h1 h2
    unfold hitsU wRef hitC
    simp only [Int.toNat_natCast]
    have e : hitN w s (wRf r) = decide (r.1 = w ∧ r.2.1 = s) := by
      unfold hitN wRf
      rw [g0, g1, g2]
      simp only [decide_true, Bool.true_and, Int.natCast_inj]
      by_cases a : r.1 = w <;> by_cases b : r.2.1 = s <;> simp [a, b]
    rw [e]
    by_cases hh : r.1 = w ∧ r.2.1 = s
    · rw [if_pos (by simpa using hh), if_pos hh]
      unfold wRf; rw [g2]
    · rw [if_neg (by simpa using hh), if_neg hh]; simp
theorem wRef_lt (r : Option Rf) : wRef r < 18446744073709551616 := by
  cases r with
  | none => show 0 < _; omega
  | some r => exact wRf_lt r
theorem mv_scanning (V : HV) (hV : V.Ok) (h : HH) (w st : Nat) (c : Cl) (hp : c.pos < V.n) (hne : c.pos + 1 ≠ V.n) (hu : c.used.length ≤ 1000) (r : Option Rf) (hr : ∀ x, r = some x → x.1 < 256 ∧ x.2.1 < 256 ∧ x.2.2 < 4294967296) (hx : h.m.get ((V.b + 1 + c.pos : Nat) : Int) = (wRef r : Nat)) (U : List Int) (hU : U = c.used ++ hitC w (sideC w c.href) r) :
    Tri En 74 [.ptr 0 0 0] ((clC w st c (fScan 8 9 10 c) :: hlO V h) ++ [recT c, doneT c, scC 2 11 V w c, tagsT c.used]) (fnA 74)
      ((clC w st c (fScan 8 9 10 c) :: hlO V (h.mem (h.m.acc 1 ((V.b + 1 + c.pos : Nat) : Int)))) ++ [recT c, doneT c, scC 2 12 V w { c with used := U, pos := c.pos + 1 }, .gone, tagsT U]) := by
  have n1 := hV.n1
  have b1 := hV.b1
  have s1 := step_tri h.m (V.b + 1 + c.pos) (V.n - c.pos - 1) w (sideC w c.href : Nat) c.used (by omega) (by omega) (wRef r) hx (wRef_lt r) (by omega)
  rw [hit_eq w _ _ r hr, ← hU] at s1
  have e2 : decide (((V.n - c.pos - 1 : Nat) : Int) = 0) = false := dec_f (by omega)
  rw [e2, show V.n - c.pos - 1 + 1 = V.n - c.pos by omega] at s1
  simp only [scC, recT, doneT, fScan]
  rw [show V.b + 1 + (c.pos + 1) = V.b + 1 + c.pos + 1 by omega, show V.n - (c.pos + 1) = V.n - c.pos - 1 by omega]
  generalize V.b + 1 + c.pos = A at *
  generalize V.n - c.pos - 1 = k1 at *
  generalize V.n - c.pos = k0 at *
  have hml : (c.done.map dnE).length = c.done.length := List.length_map _
  generalize c.done.map dnE = D at *
  generalize wRf c.href = z at *
  generalize sideC w c.href = sd at *
  clear hU hr hx
  obtain ⟨b, n, t, o⟩ := V
  cases o
  all_goals
    refine Tri.of Tryd.func74 rfl Tryd.call74 rfl ?_
    refine Goods.fin 2000 [.c (.of s1), .b true] mixed Tryd.func74 ?_
    show Yes _
    repeat' apply And.intro
    (all_goals first | rfl | assumption | trivial | omega | (simp [-List.getD_eq_getElem?_getD] <;> omega) | (simp (disch := omega) only [w64, wu64] <;> omega) | (simp (disch := omega) [-List.getD_eq_getElem?_getD, List.getD_cons_zero, List.getD_cons_succ, kCast_self, dfl_pair, dfl_int, w64, wu64] <;> omega) | (rw [Bool.eq_iff_iff]; simp (disch := omega) [-List.getD_eq_getElem?_getD, List.getD_cons_zero, List.getD_cons_succ, kCast_self, dfl_pair, dfl_int, w64, wu64] <;> omega) | (simp_all [-List.getD_eq_getElem?_getD] <;> omega))
theorem mv_scanned (V : HV) (hV : V.Ok) (h : HH) (w st : Nat) (hw : w < V.n) (c : Cl) (hp : c.pos < V.n) (hne : c.pos + 1 = V.n) (hu : c.used.length ≤ 1000) (r : Option Rf) (hr : ∀ x, r = some x → x.1 < 256 ∧ x.2.1 < 256 ∧ x.2.2 < 4294967296) (hx : h.m.get ((V.b + 1 + c.pos : Nat) : Int) = (wRef r : Nat)) (U : List Int) (hU : U = c.used ++ hitC w (sideC w c.href) r) (hc : c.cp.length = V.R) :
    Tri En 74 [.ptr 0 0 0] ((clC w st c (fScan 8 9 10 c) :: hlO V h) ++ [recT c, doneT c, scC 2 11 V w c, tagsT c.used]) (fnA 79)
      ((clC w st c (fLay 8 9 (.ptr 13 0 0) w { c with tag := leastT U }) :: hlO V (h.mem (h.m.acc 1 ((V.b + 1 + c.pos : Nat) : Int)))) ++ [recT c, doneT c, .gone, .gone, .gone, layC 2 14 (V.at_ w (sideC w c.href)) 0 c.cp.length, recT c]) := by
  have n1 := hV.n1
  have b1 := hV.b1
  have hsd := sideC_lt w c.href
  have hRl := HV.R_le hV
  have hUl : U.length ≤ 1001 := by
    rw [hU]
    have : (hitC w (sideC w c.href) r).length ≤ 1 := by
      unfold hitC
      cases r with
      | none => simp
      | some r => simp only; split <;> simp
    simp; omega
  have s1 := step_tri h.m (V.b + 1 + c.pos) (V.n - c.pos - 1) w (sideC w c.href : Nat) c.used (by omega) (by omega) (wRef r) hx (wRef_lt r) (by omega)
  rw [hit_eq w _ _ r hr, ← hU] at s1
  have e2 : decide (((V.n - c.pos - 1 : Nat) : Int) = 0) = true := dec_t (by omega)
  rw [e2, show V.n - c.pos - 1 + 1 = V.n - c.pos by omega] at s1
  have a1 := fr_at hV.fr (i := w) (s := (sideC w c.href : Nat)) (by omega) (by omega) (by omega) (by omega)
  rw [V.at_eq] at a1
  have t1 := ref_tri (h.m.acc 1 ((V.b + 1 + c.pos : Nat) : Int)) ((V.b + 1 + c.pos + 1 : Nat) : Int) ((V.n - c.pos - 1 : Nat) : Int) w (sideC w c.href : Nat) U (by omega)
  have y1 := slot_lay (h.m.acc 1 ((V.b + 1 + c.pos : Nat) : Int)) (V.at_ w (sideC w c.href)) true c.cp (by omega)
  simp only [scC, recT, doneT, fScan, fLay]
  generalize V.at_ w (sideC w c.href) = B at *
  generalize leastT U = tg at *
  generalize V.b + 1 + c.pos = A at *
  generalize V.n - c.pos - 1 = k1 at *
  generalize V.n - c.pos = k0 at *
  have hml : (c.done.map dnE).length = c.done.length := List.length_map _
  generalize c.done.map dnE = D at *
  generalize wRf c.href = z at *
  generalize sideC w c.href = sd at *
  clear hU hr hx
  obtain ⟨b, n, t, o⟩ := V
  unfold refI at t1
  cases o
  all_goals
    refine Tri.of Tryd.func74 rfl Tryd.call74 rfl ?_
    refine Goods.fin 2000 [.c (.of s1), .b false, .c (.of t1), .k 41 (.of a1), .c (.of y1)] mixed Tryd.func74 ?_
    show Yes _
    repeat' apply And.intro
    (all_goals first | rfl | assumption | trivial | omega | (simp [-List.getD_eq_getElem?_getD] <;> omega) | (simp (disch := omega) only [w64, wu64] <;> omega) | (simp (disch := omega) [-List.getD_eq_getElem?_getD, List.getD_cons_zero, List.getD_cons_succ, kCast_self, dfl_pair, dfl_int, w64, wu64] <;> omega) | (rw [Bool.eq_iff_iff]; simp (disch := omega) [-List.getD_eq_getElem?_getD, List.getD_cons_zero, List.getD_cons_succ, kCast_self, dfl_pair, dfl_int, w64, wu64] <;> omega) | (simp_all [-List.getD_eq_getElem?_getD] <;> omega))
theorem mv_laying (V : HV) (hV : V.Ok) (h : HH) (w st : Nat) (c : Cl) (hl : c.cp.length = V.R) (hk : c.laid < V.R) (A : Nat) (hA : A ≤ 100000000) :
    Tri En 79 [.ptr 0 0 0] ((clC w st c (fLay 8 9 (.ptr 10 0 0) w c) :: hlO V h) ++ [recT c, doneT c, layC 2 11 ((A + c.laid : Nat) : Int) c.laid (V.R - c.laid), recT c]) (fnA (if c.laid + 1 = V.R then 82 else 79))
      ((clC w st c (fLay 8 9 (.ptr 10 0 0) w c) :: hlO V (h.mem ((h.m.acc 2 ((A + c.laid : Nat) : Int)).put ((A + c.laid : Nat) : Int) (c.cp.getD c.laid 0)))) ++ [recT c, doneT c, layC 2 11 ((A + (c.laid + 1) : Nat) : Int) (c.laid + 1) (V.R - (c.laid + 1)), recT c]) := by
  have hR := HV.R_le hV
  have y1 := lay_step h.m ((A + c.laid : Nat) : Int) c.cp c.laid (V.R - c.laid - 1) (by omega)
  rw [inc_nat (by omega), show A + c.laid + 1 = A + (c.laid + 1) by omega, show V.R - c.laid - 1 + 1 = V.R - c.laid by omega, show V.R - c.laid - 1 = V.R - (c.laid + 1) by omega] at y1
  simp only [recT, doneT, fLay]
  have hml : (c.done.map dnE).length = c.done.length := List.length_map _
  generalize c.done.map dnE = D at *
  generalize wRf c.href = z at *
  generalize sideC w c.href = sd at *
  by_cases e : c.laid + 1 = V.R
  · rw [if_pos e]
    have e2 : decide (V.R - (c.laid + 1) = 0) = true := dec_t (by omega)
    rw [e2] at y1
    clear e e2
    generalize V.R - (c.laid + 1) = k1 at *
    generalize V.R - c.laid = k0 at *
    generalize A + (c.laid + 1) = A1 at *
    generalize A + c.laid = A0 at *
    generalize V.R = R at *
    obtain ⟨b, n, t, o⟩ := V
    cases o
    all_goals
      refine Tri.of Tryd.func79 rfl Tryd.call79 rfl ?_
      refine Goods.fin 2000 [.c (.of y1), .b false] mixed Tryd.func79 ?_
      show Yes _
      repeat' apply And.intro
      (all_goals first | rfl | assumption | trivial | omega | (simp [-List.getD_eq_getElem?_getD] <;> omega) | (simp (disch := omega) only [w64, wu64] <;> omega) | (simp (disch := omega) [-List.getD_eq_getElem?_getD, List.getD_cons_zero, List.getD_cons_succ, kCast_self, dfl_pair, dfl_int, w64, wu64] <;> omega) | (rw [Bool.eq_iff_iff]; simp (disch := omega) [-List.getD_eq_getElem?_getD, List.getD_cons_zero, List.getD_cons_succ, kCast_self, dfl_pair, dfl_int, w64, wu64] <;> omega) | (simp_all [-List.getD_eq_getElem?_getD] <;> omega))
  · rw [if_neg e]
    have e2 : decide (V.R - (c.laid + 1) = 0) = false := dec_f (by omega)
    rw [e2] at y1
    clear e e2
    generalize V.R - (c.laid + 1) = k1 at *
    generalize V.R - c.laid = k0 at *
    generalize A + (c.laid + 1) = A1 at *
    generalize A + c.laid = A0 at *
    generalize V.R = R at *
    obtain ⟨b, n, t, o⟩ := V
    cases o
    all_goals
      refine Tri.of Tryd.func79 rfl Tryd.call79 rfl ?_
      refine Goods.fin 2000 [.c (.of y1), .b true] mixed Tryd.func79 ?_
      show Yes _
      repeat' apply And.intro
      (all_goals first | rfl | assumption | trivial | omega | (simp [-List.getD_eq_getElem?_getD] <;> omega) | (simp (disch := omega) only [w64, wu64] <;> omega) | (simp (disch := omega) [-List.getD_eq_getElem?_getD, List.getD_cons_zero, List.getD_cons_succ, kCast_self, dfl_pair, dfl_int, w64, wu64] <;> omega) | (rw [Bool.eq_iff_iff]; simp (disch := omega) [-List.getD_eq_getElem?_getD, List.getD_cons_zero, List.getD_cons_succ, kCast_self, dfl_pair, dfl_int, w64, wu64] <;> omega) | (simp_all [-List.getD_eq_getElem?_getD] <;> omega))
end Go.Proofs.YtnheodgffackoaaDoor.E

/- Package hall: the moves: what is told to the others; the last looks. -/
namespace Go.Proofs.YtnheodgffackoaaDoor.E
set_option linter.unusedSimpArgs false
set_option linter.unusedVariables false
open Go Go.Proofs.YtnheodgffackoaaDoor.Y
set_option maxRecDepth 100000
set_option maxHeartbeats 4000000
theorem mv_tellA (V : HV) (hV : V.Ok) (h : HH) (w st : Nat) (hw : w < V.n) (c : Cl) : Tri En 34 [.ptr 0 0 0] (clC w st c fBase :: hlO V h) (fnA 47) (clC w st { c with pc := .tellB } fBase :: hlO V (h.mem ((h.m.acc 2 ((V.b + 1 + w + 2 * V.n : Nat) : Int)).put ((V.b + 1 + w + 2 * V.n : Nat) : Int) c.op.1))) := by
  have f1 := fr_a' hV hw
  have l1 := mem_store h.m ((V.b + 1 + w + 2 * V.n : Nat) : Int) c.op.1
  generalize V.b + 1 + w + 2 * V.n = A at *
  obtain ⟨b, n, t, o⟩ := V
  cases o
  all_goals
    refine Tri.of Tryd.func34 rfl Tryd.call34 rfl ?_
    refine Goods.fin 2000 [.k 21 (.of f1), .c (.of l1)] mixed Tryd.func34 ?_
    show Yes _
    repeat' apply And.intro
    (all_goals first | rfl | assumption | trivial | omega | (simp [-List.getD_eq_getElem?_getD] <;> omega) | (simp (disch := omega) only [w64, wu64] <;> omega) | (simp (disch := omega) [-List.getD_eq_getElem?_getD, List.getD_cons_zero, List.getD_cons_succ, kCast_self, dfl_pair, dfl_int, w64, wu64] <;> omega) | (rw [Bool.eq_iff_iff]; simp (disch := omega) [-List.getD_eq_getElem?_getD, List.getD_cons_zero, List.getD_cons_succ, kCast_self, dfl_pair, dfl_int, w64, wu64] <;> omega) | (simp_all [-List.getD_eq_getElem?_getD] <;> omega))
theorem mv_tellB (V : HV) (hV : V.Ok) (h : HH) (w st : Nat) (hw : w < V.n) (c : Cl) : Tri En 47 [.ptr 0 0 0] (clC w st c fBase :: hlO V h) (fnA 55) (clC w st { c with pc := .tell } fBase :: hlO V (h.mem ((h.m.acc 2 ((V.b + 1 + w + 3 * V.n : Nat) : Int)).put ((V.b + 1 + w + 3 * V.n : Nat) : Int) c.op.2))) := by
  have f1 := fr_b' hV hw
  have l1 := mem_store h.m ((V.b + 1 + w + 3 * V.n : Nat) : Int) c.op.2
  generalize V.b + 1 + w + 3 * V.n = A at *
  obtain ⟨b, n, t, o⟩ := V
  cases o
  all_goals
    refine Tri.of Tryd.func47 rfl Tryd.call47 rfl ?_
    refine Goods.fin 2000 [.k 21 (.of f1), .c (.of l1)] mixed Tryd.func47 ?_
    show Yes _
    repeat' apply And.intro
    (all_goals first | rfl | assumption | trivial | omega | (simp [-List.getD_eq_getElem?_getD] <;> omega) | (simp (disch := omega) only [w64, wu64] <;> omega) | (simp (disch := omega) [-List.getD_eq_getElem?_getD, List.getD_cons_zero, List.getD_cons_succ, kCast_self, dfl_pair, dfl_int, w64, wu64] <;> omega) | (rw [Bool.eq_iff_iff]; simp (disch := omega) [-List.getD_eq_getElem?_getD, List.getD_cons_zero, List.getD_cons_succ, kCast_self, dfl_pair, dfl_int, w64, wu64] <;> omega) | (simp_all [-List.getD_eq_getElem?_getD] <;> omega))
theorem mv_tell (V : HV) (hV : V.Ok) (h : HH) (w st : Nat) (hw : w < V.n) (hk : h.ask.length = V.n) (c : Cl) (x : Int) (hx : IntKind.u64.wrap (h.ask.getD w 0 + 1) = x) : Tri En 55 [.ptr 0 0 0] (clC w st c fBase :: hlO V h) (fnA 33) (clC w st { c with pc := .load, helped := true, left := 2 } fBase :: hlO V { h with m := ((h.m.acc 2 ((V.b + 1 + w + V.n : Nat) : Int)).put ((V.b + 1 + w + V.n : Nat) : Int) x), ask := h.ask.set w x }) := by
  have f1 := fr_asked' hV hw
  have l1 := mem_store h.m ((V.b + 1 + w + V.n : Nat) : Int) x
  have g1 : (h.ask.set w x).getD w 0 = x := Y.getD_set_self (by omega) x
  have hl2 : (h.ask.set w x).length = V.n := by simpa using hk
  subst hx
  generalize V.b + 1 + w + V.n = A at *
  obtain ⟨b, n, t, o⟩ := V
  cases o
  all_goals
    refine Tri.of Tryd.func55 rfl Tryd.call55 rfl ?_
    refine Goods.fin 2000 [.k 36 (.of f1), .c (.of l1)] mixed Tryd.func55 ?_
    show Yes _
    repeat' apply And.intro
    all_goals try exact g1
    (all_goals first | rfl | assumption | trivial | omega | (simp [-List.getD_eq_getElem?_getD, hk] <;> omega) | (simp (disch := omega) only [w64, wu64] <;> omega) | (simp (disch := omega) [-List.getD_eq_getElem?_getD, List.getD_cons_zero, List.getD_cons_succ, kCast_self, dfl_pair, dfl_int, w64, wu64, hk] <;> omega) | (rw [Bool.eq_iff_iff]; simp (disch := omega) [-List.getD_eq_getElem?_getD, List.getD_cons_zero, List.getD_cons_succ, kCast_self, dfl_pair, dfl_int, w64, wu64, hk] <;> omega) | (simp_all [-List.getD_eq_getElem?_getD] <;> omega))
theorem mv_last (V : HV) (hV : V.Ok) (h : HH) (w st : Nat) (c : Cl) (r : Rf) (hb : r.1 < V.n ∧ r.2.1 < 2 ∧ r.2.2 ≤ V.n) (hr : h.m.get V.b = (wRf r : Nat)) : Tri En 59 [.ptr 0 0 0] (clC w st c fBase :: hlO V h) (fnA 62) (clC w st { c with pc := .lastA, href := r } (fLast { c with href := r }) :: hlO V (h.mem (h.m.acc 1 V.b))) := by
  have n1 := hV.n1
  have f1 := fr_head hV.fr
  have l1 := mem_load h.m V.b
  rw [hr] at l1
  have t1 : Tri En 35 [.int .u64 (wRf r : Nat)] [] (.tuple [refI r.1 r.2.1 r.2.2, .bl true]) [] := to_of r.1 r.2.1 r.2.2 (by omega) (by omega) (by omega)
  clear hr
  generalize wRf r = z at *
  obtain ⟨b, n, t, o⟩ := V
  cases o
  all_goals
    refine Tri.of Tryd.func59 rfl Tryd.call59 rfl ?_
    refine Goods.fin 2000 [.k 19 (.of f1), .c (.of l1), .k 21 (.of t1)] mixed Tryd.func59 ?_
    show Yes _
    repeat' apply And.intro
    (all_goals first | rfl | assumption | trivial | omega | (simp [-List.getD_eq_getElem?_getD] <;> omega) | (simp (disch := omega) only [w64, wu64] <;> omega) | (simp (disch := omega) [-List.getD_eq_getElem?_getD, List.getD_cons_zero, List.getD_cons_succ, kCast_self, dfl_pair, dfl_int, w64, wu64] <;> omega) | (rw [Bool.eq_iff_iff]; simp (disch := omega) [-List.getD_eq_getElem?_getD, List.getD_cons_zero, List.getD_cons_succ, kCast_self, dfl_pair, dfl_int, w64, wu64] <;> omega) | (simp_all [-List.getD_eq_getElem?_getD] <;> omega))
theorem mv_lastA (V : HV) (hV : V.Ok) (h : HH) (w st : Nat) (hw : w < V.n) (c : Cl) (hb : c.href.1 < V.n ∧ c.href.2.1 < 2) (x : Int) (hx : h.m.get ((V.at_ c.href.1 c.href.2.1 + (V.dn w + 1) : Nat) : Int) = x) : Tri En 62 [.ptr 0 0 0] (clC w st c (fLast c) :: hlO V h) (fnA 68) (clC w st { c with pc := .lastB, ans := (x, c.ans.2) } (fLast c) :: hlO V (h.mem (h.m.acc 1 ((V.at_ c.href.1 c.href.2.1 + (V.dn w + 1) : Nat) : Int)))) := by
  have n1 := hV.n1
  have a1 := fr_at hV.fr (i := c.href.1) (s := c.href.2.1) (by omega) (by omega) (by omega) (by omega)
  rw [V.at_eq] at a1
  have a2 := fr_answer' hV hw
  have l1 := mem_load h.m ((V.at_ c.href.1 c.href.2.1 + (V.dn w + 1) : Nat) : Int)
  rw [hx] at l1
  have hA := hV.at_le (w := c.href.1) (s := c.href.2.1) (by omega) (by omega)
  have d1 := HV.dn_le hV hw
  have r1 := HV.R_le hV
  generalize V.at_ c.href.1 c.href.2.1 = A at *
  generalize V.dn w = d at *
  generalize V.R = R at *
  obtain ⟨b, n, t, o⟩ := V
  cases o
  all_goals
    refine Tri.of Tryd.func62 rfl Tryd.call62 rfl ?_
    refine Goods.fin 2000 [.k 28 (.of a1), .k 40 (.of a2), .c (.of l1)] mixed Tryd.func62 ?_
    show Yes _
    repeat' apply And.intro
    (all_goals first | rfl | assumption | trivial | omega | (simp [-List.getD_eq_getElem?_getD] <;> omega) | (simp (disch := omega) only [w64, wu64] <;> omega) | (simp (disch := omega) [-List.getD_eq_getElem?_getD, List.getD_cons_zero, List.getD_cons_succ, kCast_self, dfl_pair, dfl_int, w64, wu64] <;> omega) | (rw [Bool.eq_iff_iff]; simp (disch := omega) [-List.getD_eq_getElem?_getD, List.getD_cons_zero, List.getD_cons_succ, kCast_self, dfl_pair, dfl_int, w64, wu64] <;> omega) | (simp_all [-List.getD_eq_getElem?_getD] <;> omega))
theorem mv_lastB (V : HV) (hV : V.Ok) (h : HH) (w st : Nat) (hw : w < V.n) (c : Cl) (hb : c.href.1 < V.n ∧ c.href.2.1 < 2) (x : Int) (hx : h.m.get ((V.at_ c.href.1 c.href.2.1 + (V.dn w + 2) : Nat) : Int) = x) : Tri En 68 [.ptr 0 0 0] (clC w st c (fLast c) :: hlO V h) .nilfunc (clC w st { c with pc := .over, ans := (c.ans.1, x) } fBase :: hlO V (h.mem (h.m.acc 1 ((V.at_ c.href.1 c.href.2.1 + (V.dn w + 2) : Nat) : Int)))) := by
  have n1 := hV.n1
  have a1 := fr_at hV.fr (i := c.href.1) (s := c.href.2.1) (by omega) (by omega) (by omega) (by omega)
  rw [V.at_eq] at a1
  have a2 := fr_answer' hV hw
  have l1 := mem_load h.m ((V.at_ c.href.1 c.href.2.1 + (V.dn w + 2) : Nat) : Int)
  rw [hx] at l1
  have hA := hV.at_le (w := c.href.1) (s := c.href.2.1) (by omega) (by omega)
  have d1 := HV.dn_le hV hw
  have r1 := HV.R_le hV
  generalize V.at_ c.href.1 c.href.2.1 = A at *
  generalize V.dn w = d at *
  generalize V.R = R at *
  obtain ⟨b, n, t, o⟩ := V
  cases o
  all_goals
    refine Tri.of Tryd.func68 rfl Tryd.call68 rfl ?_
    refine Goods.fin 2000 [.k 28 (.of a1), .k 40 (.of a2), .c (.of l1)] mixed Tryd.func68 ?_
    show Yes _
    repeat' apply And.intro
    (all_goals first | rfl | assumption | trivial | omega | (simp [-List.getD_eq_getElem?_getD] <;> omega) | (simp (disch := omega) only [w64, wu64] <;> omega) | (simp (disch := omega) [-List.getD_eq_getElem?_getD, List.getD_cons_zero, List.getD_cons_succ, kCast_self, dfl_pair, dfl_int, w64, wu64] <;> omega) | (rw [Bool.eq_iff_iff]; simp (disch := omega) [-List.getD_eq_getElem?_getD, List.getD_cons_zero, List.getD_cons_succ, kCast_self, dfl_pair, dfl_int, w64, wu64] <;> omega) | (simp_all [-List.getD_eq_getElem?_getD] <;> omega))
end Go.Proofs.YtnheodgffackoaaDoor.E

/- Package hall: the move that swings the head. -/
namespace Go.Proofs.YtnheodgffackoaaDoor.E
set_option linter.unusedSimpArgs false
set_option linter.unusedVariables false
open Go Go.Proofs.YtnheodgffackoaaDoor.Y
set_option maxRecDepth 100000
set_option maxHeartbeats 4000000
theorem swing_yes (m : MemS) (a old x : Int) (h : m.inr a) (h2 : m.get a = old) : Tri En 83 [.ptr 0 0 0, .int .i64 a, .int .u64 old, .int .u64 x] [memC 1 m, memT m] (.bl true) [memC 1 ((m.acc 4 a).put a x), memT ((m.acc 4 a).put a x)] := by
  have hin := h
  obtain ⟨h0, h1⟩ := h
  rw [MemS.get_in hin] at h2
  have e := MemS.acc_in hin 4
  rw [MemS.put_in (m := m.acc 4 a) hin]
  refine Tri.of Tryd.func83 rfl Tryd.call83 rfl ?_
  refine Goods.fin 2000 [.c (.of (at_in m 4 a hin)), .s 22 (some false) true true, .b false] mixed Tryd.func83 ?_
  show Yes _
  repeat' apply And.intro
  all_goals try (simp only [e]; rfl)
  (all_goals first | rfl | assumption | trivial | omega | (simp [-List.getD_eq_getElem?_getD, e] <;> omega) | (simp (disch := omega) only [w64, wu64] <;> omega) | (simp (disch := omega) [-List.getD_eq_getElem?_getD, List.getD_cons_zero, List.getD_cons_succ, kCast_self, dfl_pair, dfl_int, w64, wu64, e] <;> omega) | (rw [Bool.eq_iff_iff]; simp (disch := omega) [-List.getD_eq_getElem?_getD, List.getD_cons_zero, List.getD_cons_succ, kCast_self, dfl_pair, dfl_int, w64, wu64, e] <;> omega) | (simp_all [-List.getD_eq_getElem?_getD] <;> omega))
theorem swing_no (m : MemS) (a old x : Int) (h : m.inr a) (h2 : m.get a ≠ old) : Tri En 83 [.ptr 0 0 0, .int .i64 a, .int .u64 old, .int .u64 x] [memC 1 m, memT m] (.bl false) [memC 1 (m.acc 4 a), memT m] := by
  have hin := h
  obtain ⟨h0, h1⟩ := h
  rw [MemS.get_in hin] at h2
  refine Tri.of Tryd.func83 rfl Tryd.call83 rfl ?_
  refine Goods.fin 2000 [.c (.of (at_in m 4 a hin)), .s 22 (some true) true true] mixed Tryd.func83 ?_
  show Yes _
  repeat' apply And.intro
  (all_goals first | rfl | assumption | trivial | omega | (simp [-List.getD_eq_getElem?_getD] <;> omega) | (simp (disch := omega) only [w64, wu64] <;> omega) | (simp (disch := omega) [-List.getD_eq_getElem?_getD, List.getD_cons_zero, List.getD_cons_succ, kCast_self, dfl_pair, dfl_int, w64, wu64] <;> omega) | (rw [Bool.eq_iff_iff]; simp (disch := omega) [-List.getD_eq_getElem?_getD, List.getD_cons_zero, List.getD_cons_succ, kCast_self, dfl_pair, dfl_int, w64, wu64] <;> omega) | (simp_all [-List.getD_eq_getElem?_getD] <;> omega))
theorem of_ref {V : HV} (hV : V.Ok) {r : Rf} (hb : r.1 < V.n ∧ r.2.1 < 2 ∧ r.2.2 ≤ V.n) : Tri En 32 [refI r.1 r.2.1 r.2.2] [] (.int .u64 (wRf r : Nat)) [] := by
  have := hV.n1
  exact of_yes r.1 r.2.1 r.2.2 (by omega) (by omega) (by omega)
def entE (a : Int) (d : Dn) : EntT := ((d.1 : Int), d.2.1, d.2.2, a)
/-- The objects of a hall, the entries in object e. -/
def hlOe (V : HV) (h : HH) (e k : Nat) : List AObj := [hlC 2 7 4 5 e V k, memC 3 h.m, memT h.m, .tab true (.int .u64) h.ask, .tab true .raw h.us, .gone, obO V.o]
noncomputable abbrev gSw (V : HV) (h : HH) (m : MemS) (w st : Nat) (c c' : Cl) : Frm := ⟨En, 82, Tryd.f82.ntmps, (clC w st c (fLay 8 9 .any w c) :: hlO V h) ++ [recT c, doneT c], .nilfunc,
  (clC w st c' fBase :: hlOe V (h.mem m) 10 (h.es.length + c.done.length)) ++ [.gone, .gone, .tab true EntK (h.es ++ c.done.map (entE m.ops))]⟩
theorem sw_0 (V : HV) (hV : V.Ok) (h : HH) (m : MemS) (w st : Nat) (hw : w < V.n) (c : Cl) (hc : c.cp.length = V.R) (hd : c.done.length ≤ 1000) (he : h.es.length ≤ 100000000) : ∀ (j k : Nat), k + j = c.done.length →
    Goods (gSw V h m w st c { c with pc := .over, ans := if c.helped = true then (slot3 c.cp (V.dn w)).2 else c.ans }) ⟨.none, lp Tryd.f82 0, [(0, .ptr 0 0 0), (36, .slice 9 0 c.done.length), (37, .int .i64 c.done.length), (38, .int .i64 k)],
      hp ((clC w st c (fLay 8 9 .any w c) :: hlOe V (h.mem m) 10 (h.es.length + k)) ++ [recT c, doneT c, .tab true EntK (h.es ++ (c.done.take k).map (entE m.ops))])⟩
  | 0, k, hk => by
    obtain rfl : k = c.done.length := by omega
    rw [List.take_length]
    have t1 := call_told V hV { h with m := m, es := h.es ++ c.done.map (entE m.ops) } w st hw c hc
    simp only [gSw, hlO, hlOe, HH.mem, List.length_append, List.length_map] at t1 ⊢
    generalize h.es ++ c.done.map (entE m.ops) = E2 at *
    have hml : (c.done.map dnE).length = c.done.length := List.length_map _
    unfold fLay doneT recT at *
    generalize c.done.map dnE = D at *
    generalize wRf c.href = z at *
    generalize sideC w c.href = sd at *
    generalize (slot3 c.cp (V.dn w)).2 = A at *
    generalize V.R = R at *
    obtain ⟨b, n, t, o⟩ := V
    by_cases hh : c.helped = true
    · rw [if_pos hh]
      cases o
      all_goals
        refine Goods.fin 2000 [.b false, .s 71 (some true) true true, .c (.of t1)] mixed Tryd.func82 ?_
        show Yes _
        repeat' apply And.intro
        (all_goals first | rfl | assumption | trivial | omega | (simp [-List.getD_eq_getElem?_getD] <;> omega) | (simp (disch := omega) only [w64, wu64] <;> omega) | (simp (disch := omega) [-List.getD_eq_getElem?_getD, List.getD_cons_zero, List.getD_cons_succ, kCast_self, dfl_pair, dfl_int, w64, wu64] <;> omega) | (rw [Bool.eq_iff_iff]; simp (disch := omega) [-List.getD_eq_getElem?_getD, List.getD_cons_zero, List.getD_cons_succ, kCast_self, dfl_pair, dfl_int, w64, wu64] <;> omega) | (simp_all [-List.getD_eq_getElem?_getD] <;> omega))
    · rw [if_neg hh]
      have hh' : c.helped = false := by simpa using hh
      cases o
      all_goals
        refine Goods.fin 2000 [.b false, .s 71 (some false) true true] mixed Tryd.func82 ?_
        show Yes _
        repeat' apply And.intro
        (all_goals first | rfl | assumption | trivial | omega | (simp [-List.getD_eq_getElem?_getD] <;> omega) | (simp (disch := omega) only [w64, wu64] <;> omega) | (simp (disch := omega) [-List.getD_eq_getElem?_getD, List.getD_cons_zero, List.getD_cons_succ, kCast_self, dfl_pair, dfl_int, w64, wu64] <;> omega) | (rw [Bool.eq_iff_iff]; simp (disch := omega) [-List.getD_eq_getElem?_getD, List.getD_cons_zero, List.getD_cons_succ, kCast_self, dfl_pair, dfl_int, w64, wu64] <;> omega) | (simp_all [-List.getD_eq_getElem?_getD] <;> omega))
  | j + 1, k, hk => by
    have ih := sw_0 V hV h m w st hw c hc hd he j (k + 1) (by omega)
    have o1 := mem_ops m
    have hkl : k < c.done.length := by omega
    have e1 : (c.done.take (k + 1)).map (entE m.ops) = (c.done.take k).map (entE m.ops) ++ [entE m.ops c.done[k]] := by
      rw [List.take_succ_eq_append_getElem hkl, List.map_append]; rfl
    rw [e1, ← List.append_assoc] at ih
    have hl0 : (h.es ++ (c.done.take k).map (entE m.ops)).length = h.es.length + k := by simp; omega
    generalize hE : h.es ++ (c.done.take k).map (entE m.ops) = E2 at *
    have hml : (c.done.map dnE).length = c.done.length := List.length_map _
    have hx : (c.done.map dnE).getD k (dfl EntK) = dnE c.done[k] := by simp [List.getD, hkl]
    have hx2 : entE m.ops c.done[k] = ((dnE c.done[k]).1, (dnE c.done[k]).2.1, (dnE c.done[k]).2.2.1, m.ops) := rfl
    rw [hx2] at ih
    generalize dnE c.done[k] = X at *
    simp only [gSw, hlO, hlOe, HH.mem, fLay, doneT, recT] at ih ⊢
    generalize c.done.map dnE = D at *
    clear hE e1 hx2
    generalize wRf c.href = z at *
    generalize sideC w c.href = sd at *
    obtain ⟨X1, ⟨X2, X3⟩, ⟨X4, X5⟩, X6⟩ := X
    have f1 : @List.getD (ty EntK) D k (dfl EntK) = (X1, (X2, X3), (X4, X5), X6) := hx
    have g1 : E2 ++ [((D.getD k (dfl EntK)).1, (D.getD k (dfl EntK)).2.1, (D.getD k (dfl EntK)).2.2.1, m.ops)] = E2 ++ [(X1, (X2, X3), (X4, X5), m.ops)] := by rw [hx]
    obtain ⟨b, n, t, o⟩ := V
    cases o
    all_goals
      refine Goods.to 2000 [.b true, .c (.of o1), .l, .stop] mixed (ih) (by kernel_rfl) ?_
      show Yes _
      repeat' apply And.intro
      all_goals try exact (kCast_self _ _).trans ((congr (congrArg _ (kCast_self _ _)) (kCast_self _ _)).trans g1)
      (all_goals first | rfl | assumption | trivial | omega | (simp [-List.getD_eq_getElem?_getD, hx, hml] <;> omega) | (simp (disch := omega) only [w64, wu64] <;> omega) | (simp (disch := omega) [-List.getD_eq_getElem?_getD, List.getD_cons_zero, List.getD_cons_succ, kCast_self, dfl_pair, dfl_int, w64, wu64, hx, hml] <;> omega) | (rw [Bool.eq_iff_iff]; simp (disch := omega) [-List.getD_eq_getElem?_getD, List.getD_cons_zero, List.getD_cons_succ, kCast_self, dfl_pair, dfl_int, w64, wu64, hx, hml] <;> omega) | (simp_all [-List.getD_eq_getElem?_getD] <;> omega))
theorem mv_swing (V : HV) (hV : V.Ok) (h : HH) (w st : Nat) (hw : w < V.n) (c : Cl) (hc : c.cp.length = V.R) (hd : c.done.length ≤ 1000) (he : h.es.length ≤ 100000000) (hin : h.m.inr V.b) (hr : h.m.get V.b = (wRf c.href : Nat)) (ht : c.tag ≤ V.n) :
    Tri En 82 [.ptr 0 0 0] ((clC w st c (fLay 8 9 .any w c) :: hlO V h) ++ [recT c, doneT c]) .nilfunc
      ((clC w st { c with pc := .over, ans := if c.helped = true then (slot3 c.cp (V.dn w)).2 else c.ans } fBase :: hlOe V (h.mem ((h.m.acc 4 V.b).put V.b (wRf (c.to w) : Nat))) 10 (h.es.length + c.done.length)) ++ [.gone, .gone, .tab true EntK (h.es ++ c.done.map (entE (inc h.m.ops)))]) := by
  have f1 := fr_head hV.fr
  have o1 := of_ref hV (r := c.to w) ⟨hw, sideC_lt _ _, ht⟩
  have s1 := swing_yes h.m V.b (wRf c.href : Nat) (wRf (c.to w) : Nat) hin hr
  have ih := sw_0 V hV h ((h.m.acc 4 V.b).put V.b (wRf (c.to w) : Nat)) w st hw c hc hd he c.done.length 0 (by omega)
  have e1 : ((h.m.acc 4 V.b).put V.b (wRf (w, sideC w c.href, c.tag) : Nat)).ops = inc h.m.ops := rfl
  simp only [gSw, hlO, hlOe, HH.mem, fLay, doneT, recT, e1, List.take_zero, List.map_nil, List.append_nil, Cl.to, refI] at ih o1 s1 ⊢
  have hml : (c.done.map dnE).length = c.done.length := List.length_map _
  generalize c.done.map dnE = D at *
  generalize h.es ++ c.done.map (entE (inc h.m.ops)) = E2 at *
  clear hr
  generalize wRf c.href = z at *
  generalize wRf (w, sideC w c.href, c.tag) = z2 at *
  generalize sideC w c.href = sd at *
  generalize (if c.helped = true then (slot3 c.cp (V.dn w)).2 else c.ans) = A at *
  obtain ⟨b, n, t, o⟩ := V
  cases o
  all_goals
    refine Tri.of Tryd.func82 rfl Tryd.call82 rfl ?_
    refine Goods.to 2000 [.k 19 (.of f1), .k 28 (.of o1), .c (.of s1), .l, .stop] mixed (ih) (by kernel_rfl) ?_
    show Yes _
    repeat' apply And.intro
    (all_goals first | rfl | assumption | trivial | omega | (simp [-List.getD_eq_getElem?_getD] <;> omega) | (simp (disch := omega) only [w64, wu64] <;> omega) | (simp (disch := omega) [-List.getD_eq_getElem?_getD, List.getD_cons_zero, List.getD_cons_succ, kCast_self, dfl_pair, dfl_int, w64, wu64] <;> omega) | (rw [Bool.eq_iff_iff]; simp (disch := omega) [-List.getD_eq_getElem?_getD, List.getD_cons_zero, List.getD_cons_succ, kCast_self, dfl_pair, dfl_int, w64, wu64] <;> omega) | (simp_all [-List.getD_eq_getElem?_getD] <;> omega))
theorem mv_swing_no (V : HV) (hV : V.Ok) (h : HH) (w st : Nat) (hw : w < V.n) (c : Cl) (hl : 1 ≤ c.left) (hl2 : c.left ≤ 1000) (hin : h.m.inr V.b) (hr : h.m.get V.b ≠ (wRf c.href : Nat)) (ht : c.tag ≤ V.n) :
    Tri En 82 [.ptr 0 0 0] ((clC w st c (fLay 8 9 .any w c) :: hlO V h) ++ [recT c, doneT c]) (fnA (failF c)) ((clC w st (failC c) fBase :: hlO V (h.mem (h.m.acc 4 V.b))) ++ [.gone, .gone]) := by
  have f1 := fr_head hV.fr
  have o1 := of_ref hV (r := c.to w) ⟨hw, sideC_lt _ _, ht⟩
  have s1 := swing_no h.m V.b (wRf c.href : Nat) (wRf (c.to w) : Nat) hin hr
  have c1 := call_fail V (h.mem (h.m.acc 4 V.b)) w st c hl hl2
  generalize failC c = c' at *
  simp only [hlO, HH.mem, fLay, doneT, recT, Cl.to, refI] at c1 o1 s1 ⊢
  have hml : (c.done.map dnE).length = c.done.length := List.length_map _
  generalize c.done.map dnE = D at *
  clear hr
  generalize wRf c.href = z at *
  generalize wRf (w, sideC w c.href, c.tag) = z2 at *
  generalize sideC w c.href = sd at *
  obtain ⟨b, n, t, o⟩ := V
  rcases failF_cases c with e | e | e <;> rw [e] at c1 ⊢ <;> cases o
  all_goals
    refine Tri.of Tryd.func82 rfl Tryd.call82 rfl ?_
    refine Goods.fin 2000 [.k 19 (.of f1), .k 28 (.of o1), .c (.of s1), .c (.of c1)] mixed Tryd.func82 ?_
    show Yes _
    repeat' apply And.intro
    (all_goals first | rfl | assumption | trivial | omega | (simp [-List.getD_eq_getElem?_getD] <;> omega) | (simp (disch := omega) only [w64, wu64] <;> omega) | (simp (disch := omega) [-List.getD_eq_getElem?_getD, List.getD_cons_zero, List.getD_cons_succ, kCast_self, dfl_pair, dfl_int, w64, wu64] <;> omega) | (rw [Bool.eq_iff_iff]; simp (disch := omega) [-List.getD_eq_getElem?_getD, List.getD_cons_zero, List.getD_cons_succ, kCast_self, dfl_pair, dfl_int, w64, wu64] <;> omega) | (simp_all [-List.getD_eq_getElem?_getD] <;> omega))
end Go.Proofs.YtnheodgffackoaaDoor.E

/- Package hall: a step, with the call in its box. -/
namespace Go.Proofs.YtnheodgffackoaaDoor.E
set_option linter.unusedSimpArgs false
set_option linter.unusedVariables false
open Go Go.Proofs.YtnheodgffackoaaDoor.Y
set_option maxRecDepth 100000
/-- A call, as it lies: what comes next in nx; its hall in object j. -/
def clN (j : Nat) (nx : AV) (w st : Nat) (c : Cl) (f : List AV) : AObj := .cells ([.ptr j 0 0, .int .i64 w, .int .u64 c.op.1, .int .u64 c.op.2, nx, .int .i64 st, .int .i64 c.left, .bool c.helped] ++ f ++ [.int .u64 c.ans.1, .int .u64 c.ans.2])
/-- All that is a call's own; the hall and the memory are objects 0 and 1, itself is object 2. -/
def callOs (V : HV) (w st : Nat) (c : Cl) : List AObj := match c.pc with
  | .load => [clN 0 (fnA 33) w st c fBase]
  | .hold => [clN 0 (fnA 45) w st c (fHold c)]
  | .check => [clN 0 (fnA 52) w st c (fHold c)]
  | .copying => [clN 0 (fnA 58) w st c (fCopy 3 c), cpC 1 4 (V.at_ c.href.1 c.href.2.1) V.R c.cp.length, .tab true (.int .u64) c.cp]
  | .recheck => [clN 0 (fnA 61) w st c (fCopy 3 c), cpC 1 4 (V.at_ c.href.1 c.href.2.1) V.R c.cp.length, .tab true (.int .u64) c.cp]
  | .ask => [clN 0 (fnA 66) w st c (fAsk 3 4 .any .any c), recT c, doneT c]
  | .askA => [clN 0 (fnA 71) w st c (fAsk 3 4 (phA c) .any c), recT c, doneT c]
  | .askB => [clN 0 (fnA 75) w st c (fAsk 3 4 (phA c) (.int .u64 c.wA) c), recT c, doneT c]
  | .scanning => [clN 0 (fnA 74) w st c (fScan 3 4 5 c), recT c, doneT c, scC 1 6 V w c, tagsT c.used]
  | .laying => [clN 0 (fnA 79) w st c (fLay 3 4 (.ptr 5 0 0) w c), recT c, doneT c, layC 1 6 ((V.at_ w (sideC w c.href) + c.laid : Nat) : Int) c.laid (V.R - c.laid), recT c]
  | .swing => [clN 0 (fnA 82) w st c (fLay 3 4 .any w c), recT c, doneT c]
  | .tellA => [clN 0 (fnA 34) w st c fBase]
  | .tellB => [clN 0 (fnA 47) w st c fBase]
  | .tell => [clN 0 (fnA 55) w st c fBase]
  | .last => [clN 0 (fnA 59) w st c fBase]
  | .lastA => [clN 0 (fnA 62) w st c (fLast c)]
  | .lastB => [clN 0 (fnA 68) w st c (fLast c)]
  | .over => [clN 0 .nilfunc w st c fBase]
theorem callOs_ne (V : HV) (w st : Nat) (c : Cl) : callOs V w st c ≠ [] := by unfold callOs; cases c.pc <;> simp
theorem callOs_plain (V : HV) (w st : Nat) (c : Cl) : plainL (callOs V w st c) = true := by unfold callOs; cases c.pc <;> rfl
/-- A hall, with a box of calls ahead of it. -/
def hlBox (V : HV) (T : Nat) (ms : List BMem) (h : HH) : List AObj := .box T [1, 2] (BoxP ms) :: hlO V h
/-- .. behind a step: the entries, and the box, lie behind it. -/
def hlClosed (V : HV) (T : Nat) (ms : List BMem) (h : HH) : List AObj := [.gone, hlC 2 7 4 5 8 V h.es.length, memC 3 h.m, memT h.m, .tab true (.int .u64) h.ask, .tab true .raw h.us, .gone, obO V.o, .tab true EntK h.es] ++ [.box T [1, 2] (BoxP ms)]
def hlClosedA (V : HV) (h : HH) : List AObj := [.gone, hlC 2 7 4 5 8 V h.es.length, memC 3 h.m, memT h.m, .tab true (.int .u64) h.ask, .tab true .raw h.us, .gone, obO V.o, .tab true EntK h.es]
/-- What it takes to close a box. -/
def closeA (OS osA subs : List AObj) (q0 c k0 : Nat) : Option (List Prop) := match uni (hp OS) (idSub k0) [] [] osA with
  | none => none
  | some (SA, csA) => match uni (hp OS) [(0, .id 1), (1, .id 2)] [.ptr 2 0 0] [.ptr c 0 0] (subO subs) with
    | none => none
    | some (SS, csS) => match and (disjN (idsOf SA 0 osA) (q0 :: idsOf SS 0 (subO subs))) (disjN [q0] (idsOf SS 0 (subO subs))) with
      | true => some (app2 csA csS)
      | false => none
theorem step_lift {f : FuncId} {V : HV} {h h' : HH} {wk st st' : Nat} {c c' : Cl} {u : Value} {ms : List BMem} {i T : Nat} {v : AV} {OS' : List AObj} (hi : ms[i]? = some (u, callOs V wk st c)) (hv : ∀ ρ ρ' x, Den ρ v x → Den ρ' v x)
    (t : Tri En f [.ptr 9 0 0] ((.gone :: hlO V h) ++ .box T [1, 2] (BoxP (ms.set i (u, []))) :: (callOs V wk st c).map (renO (sh 7))) v OS') (hb : (hp OS').get 8 = .box T [1, 2] (BoxP (ms.set i (u, []))))
    (hy : Yes (closeA OS' (hlClosedA V h') (callOs V wk st' c') 8 9 8)) : Tri En f [.raw u] (hlBox V T ms h) v (hlClosed V T (ms.set i (u, callOs V wk st' c')) h') := by
  have hil := (List.getElem?_eq_some_iff.1 hi).1
  refine Tri.ghost2 (α := Unit) (fun _ => [.ptr 9 0 0]) (fun _ => (.gone :: hlO V h) ++ .box T [1, 2] (BoxP (ms.set i (u, []))) :: (callOs V wk st c).map (renO (sh 7))) (fun _ => OS') (fun _ => v) (fun _ ρ => Den ρ (.ptr 9 0 0) u) t.enters
    (fun B ρ w vs hR hd => ?_) (fun _ ρ ρ' hm hF => ?_) (fun _ => by simp [hlBox]) (fun _ => t) (fun _ B ρ w hF hR => ?_)
  · obtain ⟨ρ2, h1, h2, h3, h4⟩ := hR.openB (by simp [hlO]) hi (callOs_ne V _ st c)
    obtain ⟨x, xs, rfl, hx, hn⟩ := hd
    simp only [DenL] at hn; subst hn
    simp only [Den] at hx; subst hx
    exact ⟨(), ρ2, h1, ⟨_, [], rfl, h2, rfl⟩, h2, h3, h4⟩
  · obtain ⟨l, h1, h2⟩ := hF
    exact ⟨l, hm 9 l (by
      have := callOs_ne V wk st c
      cases hc : callOs V wk st c with
      | nil => exact absurd hc this
      | cons a b => simp [hlO]) h1, h2⟩
  · unfold closeA at hy
    split at hy <;> try (cases hy; done)
    rename_i SA csA hA
    split at hy <;> try (cases hy; done)
    rename_i SS csS hS
    split at hy <;> try (cases hy; done)
    rename_i hd
    rw [Bool.and_eq_true] at hd
    obtain ⟨y1, y2⟩ := allP_app2 hy
    obtain ⟨ρ', r1, r2, r3, _⟩ := hR.closeB (ps := []) (vs := []) hb (by rw [List.length_set]; exact hil) (fun m hm => by rw [List.getElem?_set_self hil] at hm; cases hm; rfl) hF (callOs_plain ..) (by omega) (by simp [hlClosedA]) hA y1 hS y2 (callOs_ne V _ st' c') hd.1 hd.2
    rw [List.set_set] at r1 r3
    exact ⟨ρ', r1, r2, r3, fun x hx => hv _ _ _ hx⟩
theorem failC_cases (c : Cl) : (failC c = { c with left := c.left - 1, pc := .load } ∧ failF c = 33) ∨ (failC c = { c with left := c.left - 1, pc := .last } ∧ failF c = 59) ∨ (failC c = { c with left := c.left - 1, pc := .tellA } ∧ failF c = 34) := by
  unfold failC failF
  by_cases h1 : 1 < c.left
  · exact .inl ⟨by rw [if_pos h1], if_pos h1⟩
  · by_cases h2 : c.helped = true
    · exact .inr (.inl ⟨by rw [if_neg h1, if_pos h2], by rw [if_neg h1, if_pos h2]⟩)
    · exact .inr (.inr ⟨by rw [if_neg h1, if_neg h2], by rw [if_neg h1, if_neg h2]⟩)
theorem bl_any (b : Bool) : ∀ ρ ρ' x, Den ρ (.bl b) x → Den ρ' (.bl b) x := fun _ _ _ h => h
end Go.Proofs.YtnheodgffackoaaDoor.E
