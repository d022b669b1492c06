/- The block that is live; LiveSizes: the laws' contracts. -/
import Derived.Test.YtokblanedeiegaaDoorPlivev
namespace Go.Proofs.YtokblanedeiegaaDoor.E
open Go
set_option maxRecDepth 100000

theorem Tri.tup {E : Env} {f : FuncId} {args : List AV} {os os' : List AObj} {a : AV} {b c : Bool} (h : Tri E f args os (.tuple [a, .bool b]) os') (e : b = c) : Tri E f args os (.tuple [a, .bl c]) os' := by
  subst e
  refine ⟨h.enters, fun B ρ w vs h1 h2 h3 => (h.run B ρ w vs h1 h2 h3).mono fun e w' hp => ?_⟩
  obtain ⟨ρ', u, h4, h5, h6⟩ := hp
  refine ⟨ρ', u, h4, ?_, h6⟩
  simpa [Den, DenL] using h5
def c0 : Cnf := ⟨1, 1, 1, 0, [16]⟩
theorem c0_ok : c0.Ok := ⟨⟨by decide, by decide, by decide, by decide, by decide, by decide, by decide, by decide⟩, by decide, by decide, ⟨by decide, trivial⟩⟩
theorem speaks_tri : Tri En 8 [] [] (.bl true) [] := by
  have n0 := mem_new 70
  rw [show (min (max (70 : Int) 0) 16777216).toNat = 70 by decide] at n0
  have hw0 : (⟨List.replicate 70 0, 0, 0, 0, 0⟩ : MemS).words = List.replicate 70 0 := rfl
  generalize (⟨List.replicate 70 0, 0, 0, 0, 0⟩ : MemS) = m0 at n0 hw0
  have hl0 : m0.words.length = 70 := by rw [hw0]; simp
  have hok : thOk c0 (0, 0) := .inl ⟨by decide, by decide, rfl⟩
  have l0 := live_size true c0 c0_ok.toSmall
  have nw := new_tri m0 true 6 c0 (by decide)
  have mk := mark_yes c0 c0_ok 6 (by omega) m0 1 (by decide) (0, 0) hok
  obtain ⟨t1, t2⟩ := code_of c0_ok hok
  have hlt := code_lt (0, 0)
  generalize codeN (0, 0) = w at mk t1 t2 hlt
  have i1 : m0.inr ((6 + 1 : Nat) : Int) := ⟨by omega, by omega⟩
  have hw1 : ((m0.acc 2 ((6 + 1 : Nat) : Int)).put ((6 + 1 : Nat) : Int) w).words = m0.words.set 7 (w : Int) := MemS.put_words i1 ..
  generalize (m0.acc 2 ((6 + 1 : Nat) : Int)).put ((6 + 1 : Nat) : Int) (w : Int) = m1 at mk hw1
  have hl1 : m1.words.length = 70 := by rw [hw1, List.length_set, hl0]
  have g1 : m1.get ((6 + 1 : Nat) : Int) = (w : Int) := by
    rw [MemS.get_in ⟨by omega, by omega⟩, hw1]
    simp [List.getD, hl0]
  have lk := (look_yes c0 c0_ok 6 (by omega) m1 1 (by decide) w g1 hlt).tup t1
  have g2 : (m1.acc 1 ((6 + 1 : Nat) : Int)).get ((6 + 1 : Nat) : Int) = (w : Int) := g1
  have tk := (take_yes c0 c0_ok 6 (by omega) (m1.acc 1 ((6 + 1 : Nat) : Int)) 1 (by decide) w g2 hlt).tup t1
  rw [t2] at lk tk
  have i2 : (m1.acc 1 ((6 + 1 : Nat) : Int)).inr ((6 + 1 : Nat) : Int) := ⟨by omega, by rw [MemS.acc_words]; omega⟩
  have hw2 : (((m1.acc 1 ((6 + 1 : Nat) : Int)).acc 3 ((6 + 1 : Nat) : Int)).put ((6 + 1 : Nat) : Int) 0).words = m1.words.set 7 0 := MemS.put_words i2 ..
  generalize ((m1.acc 1 ((6 + 1 : Nat) : Int)).acc 3 ((6 + 1 : Nat) : Int)).put ((6 + 1 : Nat) : Int) 0 = m2 at tk hw2
  have hl2 : m2.words.length = 70 := by rw [hw2, List.length_set, hl1]
  have g3 : m2.get ((6 + 1 : Nat) : Int) = ((0 : Nat) : Int) := by
    rw [MemS.get_in ⟨by omega, by omega⟩, hw2]
    simp [List.getD, hl1]
  have tn := (take_yes c0 c0_ok 6 (by omega) m2 1 (by decide) 0 g3 (by omega)).tup th_zero.1
  rw [th_zero.2] at tn
  have z1 := th_size true c0 c0_ok 0 0 (by omega)
  rw [show sizeN c0 (0, 0) = 16 by decide] at z1
  have z2 := th_size true c0 c0_ok (-1) 1 (by omega)
  rw [show sizeN c0 (-1, 1) = 1024 by decide] at z2
  refine Tri.of Tryd.func8 rfl Tryd.call8 rfl ?_
  refine Goods.fin 2000 [.c (.of n0), .k 17 (.of l0), .b false, .c (.of nw), .k 27 (.of (live_of 0)), .k 28 (.of mk), .c (.of lk), .c (.of tk), .c (.of tn), .s 57 (some true) true true, .k 61 (.of (live_of 0)), .s 62 (some true) true true, .k 67 (.of z1), .s 68 (some true) true true, .k 71 (.of (live_run 1)), .k 73 (.of z2)] mixed Tryd.func8 ?_
  show Yes _
  repeat' apply And.intro
  (all_goals first | rfl | assumption | trivial | omega | (simp [-List.getD_eq_getElem?_getD] <;> omega) | (simp (disch := omega) only [w64, wu64] <;> omega) | (simp (disch := omega) [-List.getD_eq_getElem?_getD, List.getD_cons_zero, List.getD_cons_succ, kCast_self, dfl_pair, dfl_int, w64, wu64] <;> omega) | (rw [Bool.eq_iff_iff]; simp (disch := omega) [-List.getD_eq_getElem?_getD, List.getD_cons_zero, List.getD_cons_succ, kCast_self, dfl_pair, dfl_int, w64, wu64] <;> omega) | (simp_all [-List.getD_eq_getElem?_getD] <;> omega))
theorem LiveSizes_tri (c : Cnf) (hc : c.cl.length ≤ 9223372036854775807) (p q n : Int) (hq : -9223372036854775808 ≤ q ∧ q ≤ 9223372036854775807) (hn : -9223372036854775808 ≤ n ∧ n ≤ 9223372036854775807) : Tri En 3 [cnfA 0 c, thA (p, q), .int .i64 n] [.tab false (.int .i64) c.cl] (.bl true) (gones 1) := by
  refine Tri.of Tryd.func3 rfl Tryd.call3 rfl ?_
  by_cases h : c.Ok
  · have s1 := h.s1
    have s0 := h.s0
    have a1 := th_size false c h p q hq
    have a2 := law_size false c h p q hq
    have b1 := th_size false c h n 0 (by omega)
    have b2 := law_size false c h n 0 (by omega)
    have d1 := th_size false c h (-1) n hn
    have d2 := law_size false c h (-1) n hn
    have l0 := live_size false c h.toSmall
    generalize sizeN c (p, q) = x at *
    generalize sizeN c (n, 0) = y at *
    generalize sizeN c (-1, n) = z at *
    refine Goods.fin 2000 [.c (.of speaks_tri), .c (.of (may_yes false c h)), .k 14 (.of a1), .k 17 (.of a2), .s 18 (some true) true true, .k 21 (.of (live_of n)), .k 23 (.of b1), .k 27 (.of b2), .s 28 (some true) true true, .k 32 (.of (live_run n)), .k 34 (.of d1), .k 38 (.of d2), .s 39 (some true) true true, .k 43 (.of l0)] mixed Tryd.func3 ?_
    show Yes _
    repeat' apply And.intro
    (all_goals first | rfl | assumption | trivial | omega | (simp [-List.getD_eq_getElem?_getD] <;> omega) | (simp (disch := omega) only [w64, wu64] <;> omega) | (simp (disch := omega) [-List.getD_eq_getElem?_getD, List.getD_cons_zero, List.getD_cons_succ, kCast_self, dfl_pair, dfl_int, w64, wu64] <;> omega) | (rw [Bool.eq_iff_iff]; simp (disch := omega) [-List.getD_eq_getElem?_getD, List.getD_cons_zero, List.getD_cons_succ, kCast_self, dfl_pair, dfl_int, w64, wu64] <;> omega) | (simp_all [-List.getD_eq_getElem?_getD] <;> omega))
  · refine Goods.fin 2000 [.c (.of speaks_tri), .c (.of (may_no false c hc h))] mixed Tryd.func3 ?_
    show Yes _
    repeat' apply And.intro
    (all_goals first | rfl | assumption | trivial | omega | (simp [-List.getD_eq_getElem?_getD] <;> omega) | (simp (disch := omega) only [w64, wu64] <;> omega) | (simp (disch := omega) [-List.getD_eq_getElem?_getD, List.getD_cons_zero, List.getD_cons_succ, kCast_self, dfl_pair, dfl_int, w64, wu64] <;> omega) | (rw [Bool.eq_iff_iff]; simp (disch := omega) [-List.getD_eq_getElem?_getD, List.getD_cons_zero, List.getD_cons_succ, kCast_self, dfl_pair, dfl_int, w64, wu64] <;> omega) | (simp_all [-List.getD_eq_getElem?_getD] <;> omega))
theorem LiveSizes_law (d : dats ([(true, (.pair (.int .i64) (.pair (.int .i64) (.pair (.int .i64) (.pair (.int .i64) (.pair (.slice (.int .i64)) .unit)))))), (true, (.pair (.int .i64) (.pair (.int .i64) .unit))), (false, (.int .i64))] : List (Bool × Sh))) (hd : datsOk ([(true, (.pair (.int .i64) (.pair (.int .i64) (.pair (.int .i64) (.pair (.int .i64) (.pair (.slice (.int .i64)) .unit)))))), (true, (.pair (.int .i64) (.pair (.int .i64) .unit))), (false, (.int .i64))] : List (Bool × Sh)) d) : Tri En 3 (argsOf ([(true, (.pair (.int .i64) (.pair (.int .i64) (.pair (.int .i64) (.pair (.int .i64) (.pair (.slice (.int .i64)) .unit)))))), (true, (.pair (.int .i64) (.pair (.int .i64) .unit))), (false, (.int .i64))] : List (Bool × Sh)) d 0) (objsOf ([(true, (.pair (.int .i64) (.pair (.int .i64) (.pair (.int .i64) (.pair (.int .i64) (.pair (.slice (.int .i64)) .unit)))))), (true, (.pair (.int .i64) (.pair (.int .i64) .unit))), (false, (.int .i64))] : List (Bool × Sh)) d) (.bl true) (gones (cnts ([(true, (.pair (.int .i64) (.pair (.int .i64) (.pair (.int .i64) (.pair (.int .i64) (.pair (.slice (.int .i64)) .unit)))))), (true, (.pair (.int .i64) (.pair (.int .i64) .unit))), (false, (.int .i64))] : List (Bool × Sh)))) := by
  obtain ⟨⟨w, s, b, t, cl, _⟩, ⟨p, q, _⟩, n, _⟩ := d
  obtain ⟨⟨h0, h1, h2, h3, ⟨h4, _⟩, _⟩, ⟨h5, h6, _⟩, h7, _⟩ := hd
  exact LiveSizes_tri ⟨w, s, b, t, cl⟩ (maxLen_le h4) p q n (wf_i64 h6) (wf_i64 h7)
end Go.Proofs.YtokblanedeiegaaDoor.E
