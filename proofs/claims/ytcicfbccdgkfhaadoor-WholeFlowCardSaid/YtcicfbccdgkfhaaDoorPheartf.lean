/- Package heart: what is asked is done. -/
import Derived.Test.YtcicfbccdgkfhaaDoorPhearte
namespace Go.Proofs.YtcicfbccdgkfhaaDoor.E
set_option linter.unusedSimpArgs false
set_option linter.unusedVariables false
open Go
set_option maxRecDepth 100000

abbrev TAp (own : Bool) (c : Cnf) (n : Nat) (f : SupF) (a b : Nat) (v : AV) (f' : SupF) : Prop := Tri En 35 [cnfA 0 c, .slice 1 0 (2 * n), opA a b] [.tab own (.int .i64) c.cl, .tab true (.int .u64) (hW n f)] v [.tab own (.int .i64) c.cl, .tab true (.int .u64) (hW n f')]
set_option maxHeartbeats 4000000 in
theorem apply_1 (own : Bool) (c : Cnf) (n : Nat) (f f' : SupF) (q b : Nat) (hq : q < 4294967296) (x y : Nat) (h : Tri En 70 [cnfA 0 c, .slice 1 0 (2 * n), .int .i64 q] [.tab own (.int .i64) c.cl, .tab true (.int .u64) (hW n f)] (opA x y) [.tab own (.int .i64) c.cl, .tab true (.int .u64) (hW n f')]) : TAp own c n f (askN 1 q) b (opA x y) f' := by
  obtain ⟨e1, e2⟩ := ask_get (k := 1) (by omega) hq
  have hlt := askN_lt (k := 1) (by omega) hq
  have g1 := get_yes (askN 1 q) 8 32 hlt f832
  have g0 := get_yes (askN 1 q) 0 8 hlt f08
  rw [e2] at g1
  rw [e1] at g0
  have p1 := put_yes 1 q 8 32 (by omega) f832 hq
  rw [put_hi 1 q (by omega) hq] at p1
  generalize askN 1 q = w at *
  refine Tri.of Tryd.func35 rfl Tryd.call35 rfl ?_
  refine Goods.fin 2000 [.c (.of g1), .k 23 (.of g0), .k 26 (.of p1), .s 35 (some false) true true, .c (.of g0), .b true, .c (.of h)] mixed Tryd.func35 ?_
  show Yes _
  repeat' apply And.intro
  (all_goals first | rfl | assumption | trivial | omega | (simp [-List.getD_eq_getElem?_getD] <;> omega) | (simp (disch := omega) only [w64, wu64] <;> omega) | (simp (disch := omega) [-List.getD_eq_getElem?_getD, List.getD_cons_zero, List.getD_cons_succ, kCast_self, dfl_pair, dfl_int, w64, wu64] <;> omega) | (rw [Bool.eq_iff_iff]; simp (disch := omega) [-List.getD_eq_getElem?_getD, List.getD_cons_zero, List.getD_cons_succ, kCast_self, dfl_pair, dfl_int, w64, wu64] <;> omega) | (simp_all [-List.getD_eq_getElem?_getD] <;> omega))
set_option maxHeartbeats 4000000 in
theorem apply_3 (own : Bool) (c : Cnf) (n : Nat) (f f' : SupF) (q b : Nat) (hq : q < 4294967296) (x y : Nat) (h : Tri En 72 [cnfA 0 c, .slice 1 0 (2 * n), .int .i64 q] [.tab own (.int .i64) c.cl, .tab true (.int .u64) (hW n f)] (opA x y) [.tab own (.int .i64) c.cl, .tab true (.int .u64) (hW n f')]) : TAp own c n f (askN 3 q) b (opA x y) f' := by
  obtain ⟨e1, e2⟩ := ask_get (k := 3) (by omega) hq
  have hlt := askN_lt (k := 3) (by omega) hq
  have g1 := get_yes (askN 3 q) 8 32 hlt f832
  have g0 := get_yes (askN 3 q) 0 8 hlt f08
  rw [e2] at g1
  rw [e1] at g0
  have p1 := put_yes 3 q 8 32 (by omega) f832 hq
  rw [put_hi 3 q (by omega) hq] at p1
  generalize askN 3 q = w at *
  refine Tri.of Tryd.func35 rfl Tryd.call35 rfl ?_
  refine Goods.fin 2000 [.c (.of g1), .k 23 (.of g0), .k 26 (.of p1), .s 35 (some false) true true, .c (.of g0), .b false, .b false, .b true, .c (.of h)] mixed Tryd.func35 ?_
  show Yes _
  repeat' apply And.intro
  (all_goals first | rfl | assumption | trivial | omega | (simp [-List.getD_eq_getElem?_getD] <;> omega) | (simp (disch := omega) only [w64, wu64] <;> omega) | (simp (disch := omega) [-List.getD_eq_getElem?_getD, List.getD_cons_zero, List.getD_cons_succ, kCast_self, dfl_pair, dfl_int, w64, wu64] <;> omega) | (rw [Bool.eq_iff_iff]; simp (disch := omega) [-List.getD_eq_getElem?_getD, List.getD_cons_zero, List.getD_cons_succ, kCast_self, dfl_pair, dfl_int, w64, wu64] <;> omega) | (simp_all [-List.getD_eq_getElem?_getD] <;> omega))
set_option maxHeartbeats 4000000 in
theorem apply_4 (own : Bool) (c : Cnf) (n : Nat) (f f' : SupF) (q b : Nat) (hq : q < 4294967296) (x y : Nat) (h : Tri En 73 [cnfA 0 c, .slice 1 0 (2 * n), .int .i64 q] [.tab own (.int .i64) c.cl, .tab true (.int .u64) (hW n f)] (opA x y) [.tab own (.int .i64) c.cl, .tab true (.int .u64) (hW n f')]) : TAp own c n f (askN 4 q) b (opA x y) f' := by
  obtain ⟨e1, e2⟩ := ask_get (k := 4) (by omega) hq
  have hlt := askN_lt (k := 4) (by omega) hq
  have g1 := get_yes (askN 4 q) 8 32 hlt f832
  have g0 := get_yes (askN 4 q) 0 8 hlt f08
  rw [e2] at g1
  rw [e1] at g0
  have p1 := put_yes 4 q 8 32 (by omega) f832 hq
  rw [put_hi 4 q (by omega) hq] at p1
  generalize askN 4 q = w at *
  refine Tri.of Tryd.func35 rfl Tryd.call35 rfl ?_
  refine Goods.fin 2000 [.c (.of g1), .k 23 (.of g0), .k 26 (.of p1), .s 35 (some false) true true, .c (.of g0), .b false, .b false, .b false, .b true, .c (.of h)] mixed Tryd.func35 ?_
  show Yes _
  repeat' apply And.intro
  (all_goals first | rfl | assumption | trivial | omega | (simp [-List.getD_eq_getElem?_getD] <;> omega) | (simp (disch := omega) only [w64, wu64] <;> omega) | (simp (disch := omega) [-List.getD_eq_getElem?_getD, List.getD_cons_zero, List.getD_cons_succ, kCast_self, dfl_pair, dfl_int, w64, wu64] <;> omega) | (rw [Bool.eq_iff_iff]; simp (disch := omega) [-List.getD_eq_getElem?_getD, List.getD_cons_zero, List.getD_cons_succ, kCast_self, dfl_pair, dfl_int, w64, wu64] <;> omega) | (simp_all [-List.getD_eq_getElem?_getD] <;> omega))
set_option maxHeartbeats 4000000 in
theorem apply_2 (own : Bool) (c : Cnf) (n : Nat) (f f' : SupF) (q b : Nat) (hq : q < 4294967296) (x y : Nat) (h : TFl own c n f q b (opA x y) f') : TAp own c n f (askN 2 q) b (opA x y) f' := by
  obtain ⟨e1, e2⟩ := ask_get (k := 2) (by omega) hq
  have hlt := askN_lt (k := 2) (by omega) hq
  have g1 := get_yes (askN 2 q) 8 32 hlt f832
  have g0 := get_yes (askN 2 q) 0 8 hlt f08
  rw [e2] at g1
  rw [e1] at g0
  have p1 := put_yes 2 q 8 32 (by omega) f832 hq
  rw [put_hi 2 q (by omega) hq] at p1
  generalize askN 2 q = w at *
  refine Tri.of Tryd.func35 rfl Tryd.call35 rfl ?_
  refine Goods.fin 2000 [.c (.of g1), .k 23 (.of g0), .k 26 (.of p1), .s 35 (some false) true true, .c (.of g0), .b false, .b true, .c (.of h)] mixed Tryd.func35 ?_
  show Yes _
  repeat' apply And.intro
  (all_goals first | rfl | assumption | trivial | omega | (simp [-List.getD_eq_getElem?_getD] <;> omega) | (simp (disch := omega) only [w64, wu64] <;> omega) | (simp (disch := omega) [-List.getD_eq_getElem?_getD, List.getD_cons_zero, List.getD_cons_succ, kCast_self, dfl_pair, dfl_int, w64, wu64] <;> omega) | (rw [Bool.eq_iff_iff]; simp (disch := omega) [-List.getD_eq_getElem?_getD, List.getD_cons_zero, List.getD_cons_succ, kCast_self, dfl_pair, dfl_int, w64, wu64] <;> omega) | (simp_all [-List.getD_eq_getElem?_getD] <;> omega))
theorem raw_get (a : Nat) : getN a 0 8 = a % 256 ∧ getN a 8 32 = a / 256 % 4294967296 := by
  unfold getN
  rw [show (2 : Nat) ^ 0 = 1 by decide, show (2 : Nat) ^ 8 = 256 by decide, show (2 : Nat) ^ 32 = 4294967296 by decide]
  omega
/-- What is none that may be asked. -/
def oddA (a : Nat) : Prop := ¬ (1 ≤ a % 256 ∧ a % 256 ≤ 4 ∧ a / 256 < 4294967296)
set_option maxHeartbeats 4000000 in
theorem apply_odd (own : Bool) (c : Cnf) (n : Nat) (f : SupF) (a b : Nat) (ha : a < 18446744073709551616) (h : oddA a) : TAp own c n f a b (opA 0 0) f := by
  obtain ⟨e1, e2⟩ := raw_get a
  have g1 := get_yes a 8 32 ha f832
  have g0 := get_yes a 0 8 ha f08
  rw [e2] at g1
  rw [e1] at g0
  have p1 := put_yes (a % 256) (a / 256 % 4294967296) 8 32 (by omega) f832 (show _ < 4294967296 by omega)
  rw [put_hi (a % 256) (a / 256 % 4294967296) (by omega) (by omega)] at p1
  unfold oddA at h
  by_cases hf : a / 256 < 4294967296
  · have e3 : askN (a % 256) (a / 256 % 4294967296) = a := by unfold askN; omega
    rw [e3] at p1
    have hq : a / 256 % 4294967296 < 4294967296 := by omega
    have hk : a % 256 ≠ 1 ∧ a % 256 ≠ 2 ∧ a % 256 ≠ 3 ∧ a % 256 ≠ 4 := by omega
    clear h e1 e2 e3 hf
    generalize a / 256 % 4294967296 = q at *
    generalize a % 256 = k at *
    refine Tri.of Tryd.func35 rfl Tryd.call35 rfl ?_
    refine Goods.fin 2000 [.c (.of g1), .k 23 (.of g0), .k 26 (.of p1), .s 35 (some false) true true, .c (.of g0), .b false, .b false, .b false, .b false] mixed Tryd.func35 ?_
    show Yes _
    repeat' apply And.intro
    (all_goals first | rfl | assumption | trivial | omega | (simp [-List.getD_eq_getElem?_getD] <;> omega) | (simp (disch := omega) only [w64, wu64] <;> omega) | (simp (disch := omega) [-List.getD_eq_getElem?_getD, List.getD_cons_zero, List.getD_cons_succ, kCast_self, dfl_pair, dfl_int, w64, wu64] <;> omega) | (rw [Bool.eq_iff_iff]; simp (disch := omega) [-List.getD_eq_getElem?_getD, List.getD_cons_zero, List.getD_cons_succ, kCast_self, dfl_pair, dfl_int, w64, wu64] <;> omega) | (simp_all [-List.getD_eq_getElem?_getD] <;> omega))
  · have e3 : askN (a % 256) (a / 256 % 4294967296) ≠ a := by unfold askN; omega
    have hq : a / 256 % 4294967296 < 4294967296 := by omega
    clear h e1 e2 hf
    generalize askN (a % 256) (a / 256 % 4294967296) = w at *
    generalize a / 256 % 4294967296 = q at *
    generalize a % 256 = k at *
    refine Tri.of Tryd.func35 rfl Tryd.call35 rfl ?_
    refine Goods.fin 2000 [.c (.of g1), .k 23 (.of g0), .k 26 (.of p1), .s 35 (some true) true true] mixed Tryd.func35 ?_
    show Yes _
    repeat' apply And.intro
    (all_goals first | rfl | assumption | trivial | omega | (simp [-List.getD_eq_getElem?_getD] <;> omega) | (simp (disch := omega) only [w64, wu64] <;> omega) | (simp (disch := omega) [-List.getD_eq_getElem?_getD, List.getD_cons_zero, List.getD_cons_succ, kCast_self, dfl_pair, dfl_int, w64, wu64] <;> omega) | (rw [Bool.eq_iff_iff]; simp (disch := omega) [-List.getD_eq_getElem?_getD, List.getD_cons_zero, List.getD_cons_succ, kCast_self, dfl_pair, dfl_int, w64, wu64] <;> omega) | (simp_all [-List.getD_eq_getElem?_getD] <;> omega))
def rvA : Option (Nat × Nat) → Nat
  | some (i, _) => i + 1
  | none => 0
def rvB (c : Cnf) : Option (Nat × Nat) → Nat
  | some (_, m) => leastN m c.b
  | none => 0
theorem refV_eq (c : Cnf) (o : Option (Nat × Nat)) : refV c o = opA (rvA o) (rvB c o) := by
  cases o <;> rfl
theorem heart_new (own : Bool) (c : Cnf) (hl : c.cl.length ≤ 16) : Tri En 32 [cnfA 0 c] [.tab own (.int .i64) c.cl] (cnfA 1 c) [.tab own (.int .i64) c.cl, .tab true (.int .i64) c.cl] := by
  have hc := conf_copy own c (by omega)
  refine Tri.of Tryd.func32 rfl Tryd.call32 rfl ?_
  refine Goods.fin 2000 [.c (.of hc)] mixed Tryd.func32 ?_
  show Yes _
  repeat' apply And.intro
  (all_goals first | rfl | assumption | trivial | omega | (simp [-List.getD_eq_getElem?_getD] <;> omega) | (simp (disch := omega) only [w64, wu64] <;> omega) | (simp (disch := omega) [-List.getD_eq_getElem?_getD, List.getD_cons_zero, List.getD_cons_succ, kCast_self, dfl_pair, dfl_int, w64, wu64] <;> omega) | (rw [Bool.eq_iff_iff]; simp (disch := omega) [-List.getD_eq_getElem?_getD, List.getD_cons_zero, List.getD_cons_succ, kCast_self, dfl_pair, dfl_int, w64, wu64] <;> omega) | (simp_all [-List.getD_eq_getElem?_getD] <;> omega))
theorem heart_words (own : Bool) (c : Cnf) (h : c.Ok) (n : Nat) (hn : (n : Int) = c.s) : Tri En 33 [cnfA 0 c] [.tab own (.int .i64) c.cl] (.int .i64 (2 * n : Nat)) [.tab own (.int .i64) c.cl] := by
  have s1 := h.s1
  have hs := conf_state own c (by omega) s1
  rw [← hn] at hs
  refine Tri.of Tryd.func33 rfl Tryd.call33 rfl ?_
  refine Goods.fin 2000 [.c (.of hs)] mixed Tryd.func33 ?_
  show Yes _
  repeat' apply And.intro
  (all_goals first | rfl | assumption | trivial | omega | (simp [-List.getD_eq_getElem?_getD] <;> omega) | (simp (disch := omega) only [w64, wu64] <;> omega) | (simp (disch := omega) [-List.getD_eq_getElem?_getD, List.getD_cons_zero, List.getD_cons_succ, kCast_self, dfl_pair, dfl_int, w64, wu64] <;> omega) | (rw [Bool.eq_iff_iff]; simp (disch := omega) [-List.getD_eq_getElem?_getD, List.getD_cons_zero, List.getD_cons_succ, kCast_self, dfl_pair, dfl_int, w64, wu64] <;> omega) | (simp_all [-List.getD_eq_getElem?_getD] <;> omega))
end Go.Proofs.YtcicfbccdgkfhaaDoor.E
