/- Package heart: flush, take, give. -/
import Derived.Test.YtcicfbccdgkfhaaDoorPheartc
namespace Go.Proofs.YtcicfbccdgkfhaaDoor.E
set_option linter.unusedSimpArgs false
set_option linter.unusedVariables false
open Go
set_option maxRecDepth 100000

abbrev TFl (own : Bool) (c : Cnf) (n : Nat) (f : SupF) (i : Int) (m : Nat) (v : AV) (f' : SupF) : Prop := Tri En 71 [cnfA 0 c, .slice 1 0 (2 * n), .int .i64 i, .int .u64 m] [.tab own (.int .i64) c.cl, .tab true (.int .u64) (hW n f)] v [.tab own (.int .i64) c.cl, .tab true (.int .u64) (hW n f')]
theorem flush_none (own : Bool) (c : Cnf) (n : Nat) (hn : n ≤ 64) (f : SupF) (i : Int) (m : Nat) (hi : ¬ (0 ≤ i ∧ i < n)) : TFl own c n f i m (opA 0 0) f := by
  have hat := at_none true n hn f i hi
  have hl := hW_len n f
  refine Tri.of Tryd.func71 rfl Tryd.call71 rfl ?_
  refine Goods.fin 2000 [.c (.of hat)] mixed Tryd.func71 ?_
  show Yes _
  repeat' apply And.intro
  (all_goals first | rfl | assumption | trivial | omega | (simp [-List.getD_eq_getElem?_getD] <;> omega) | (simp (disch := omega) only [w64, wu64] <;> omega) | (simp (disch := omega) [-List.getD_eq_getElem?_getD, List.getD_cons_zero, List.getD_cons_succ, kCast_self, dfl_pair, dfl_int, w64, wu64] <;> omega) | (rw [Bool.eq_iff_iff]; simp (disch := omega) [-List.getD_eq_getElem?_getD, List.getD_cons_zero, List.getD_cons_succ, kCast_self, dfl_pair, dfl_int, w64, wu64] <;> omega) | (simp_all [-List.getD_eq_getElem?_getD] <;> omega))
theorem flush_k0 (own : Bool) (c : Cnf) (n : Nat) (hn : n ≤ 64) (f : SupF) (i m a : Nat) (hat : TAt true n f i supA0 true) : TFl own c n f i m (opA 0 0) f := by
  have hl := hW_len n f
  refine Tri.of Tryd.func71 rfl Tryd.call71 rfl ?_
  refine Goods.fin 2000 [.c (.of hat), .s 23 (some true) true true] mixed Tryd.func71 ?_
  show Yes _
  repeat' apply And.intro
  (all_goals first | rfl | assumption | trivial | omega | (simp [-List.getD_eq_getElem?_getD] <;> omega) | (simp (disch := omega) only [w64, wu64] <;> omega) | (simp (disch := omega) [-List.getD_eq_getElem?_getD, List.getD_cons_zero, List.getD_cons_succ, kCast_self, dfl_pair, dfl_int, w64, wu64] <;> omega) | (rw [Bool.eq_iff_iff]; simp (disch := omega) [-List.getD_eq_getElem?_getD, List.getD_cons_zero, List.getD_cons_succ, kCast_self, dfl_pair, dfl_int, w64, wu64] <;> omega) | (simp_all [-List.getD_eq_getElem?_getD] <;> omega))
theorem flush_k2 (own : Bool) (c : Cnf) (n : Nat) (hn : n ≤ 64) (f : SupF) (i m a : Nat) (hat : TAt true n f i (supA2 a) true) : TFl own c n f i m (opA 0 0) f := by
  have hl := hW_len n f
  refine Tri.of Tryd.func71 rfl Tryd.call71 rfl ?_
  refine Goods.fin 2000 [.c (.of hat), .s 23 (some true) true true] mixed Tryd.func71 ?_
  show Yes _
  repeat' apply And.intro
  (all_goals first | rfl | assumption | trivial | omega | (simp [-List.getD_eq_getElem?_getD] <;> omega) | (simp (disch := omega) only [w64, wu64] <;> omega) | (simp (disch := omega) [-List.getD_eq_getElem?_getD, List.getD_cons_zero, List.getD_cons_succ, kCast_self, dfl_pair, dfl_int, w64, wu64] <;> omega) | (rw [Bool.eq_iff_iff]; simp (disch := omega) [-List.getD_eq_getElem?_getD, List.getD_cons_zero, List.getD_cons_succ, kCast_self, dfl_pair, dfl_int, w64, wu64] <;> omega) | (simp_all [-List.getD_eq_getElem?_getD] <;> omega))
theorem flush_k3 (own : Bool) (c : Cnf) (n : Nat) (hn : n ≤ 64) (f : SupF) (i m a : Nat) (hat : TAt true n f i supA3 true) : TFl own c n f i m (opA 0 0) f := by
  have hl := hW_len n f
  refine Tri.of Tryd.func71 rfl Tryd.call71 rfl ?_
  refine Goods.fin 2000 [.c (.of hat), .s 23 (some true) true true] mixed Tryd.func71 ?_
  show Yes _
  repeat' apply And.intro
  (all_goals first | rfl | assumption | trivial | omega | (simp [-List.getD_eq_getElem?_getD] <;> omega) | (simp (disch := omega) only [w64, wu64] <;> omega) | (simp (disch := omega) [-List.getD_eq_getElem?_getD, List.getD_cons_zero, List.getD_cons_succ, kCast_self, dfl_pair, dfl_int, w64, wu64] <;> omega) | (rw [Bool.eq_iff_iff]; simp (disch := omega) [-List.getD_eq_getElem?_getD, List.getD_cons_zero, List.getD_cons_succ, kCast_self, dfl_pair, dfl_int, w64, wu64] <;> omega) | (simp_all [-List.getD_eq_getElem?_getD] <;> omega))
theorem flush_zero (own : Bool) (c : Cnf) (n : Nat) (hn : n ≤ 64) (f : SupF) (i a b : Nat) (hat : TAt true n f i (supA1 a b) true) : TFl own c n f i (0 : Nat) (opA 0 0) f := by
  have hl := hW_len n f
  refine Tri.of Tryd.func71 rfl Tryd.call71 rfl ?_
  refine Goods.fin 2000 [.c (.of hat), .s 23 (some false) true true, .s 27 (some true) true true] mixed Tryd.func71 ?_
  show Yes _
  repeat' apply And.intro
  (all_goals first | rfl | assumption | trivial | omega | (simp [-List.getD_eq_getElem?_getD] <;> omega) | (simp (disch := omega) only [w64, wu64] <;> omega) | (simp (disch := omega) [-List.getD_eq_getElem?_getD, List.getD_cons_zero, List.getD_cons_succ, kCast_self, dfl_pair, dfl_int, w64, wu64] <;> omega) | (rw [Bool.eq_iff_iff]; simp (disch := omega) [-List.getD_eq_getElem?_getD, List.getD_cons_zero, List.getD_cons_succ, kCast_self, dfl_pair, dfl_int, w64, wu64] <;> omega) | (simp_all [-List.getD_eq_getElem?_getD] <;> omega))
/-- May blocks come back? -/
def flOk (c : Cnf) (a b m : Nat) : Prop := subM m (allN c a) ∧ m &&& b = 0
theorem sub_zero {a m : Nat} (hm : m < 18446744073709551616) : subM m a ↔ andNotN m a = 0 := by
  constructor
  · intro h
    refine bit_ext (by rw [pow64]; exact andNotN_lt ..) (by rw [pow64]; omega) fun i hi => ?_
    rw [andNotN_bit _ _ hi, Nat.zero_testBit]
    cases e : m.testBit i
    · rfl
    · rw [h i hi e]; rfl
  · intro h i hi e
    have := andNotN_bit m a hi
    rw [h, e, Nat.zero_testBit] at this
    simpa using this.symm
theorem flush_bad (own : Bool) (c : Cnf) (hc : c.Ok) (n : Nat) (hn : n ≤ 64) (f : SupF) (i a b m : Nat) (hm : m < 18446744073709551616) (hb : b < 18446744073709551616) (h0 : m ≠ 0) (hok : ¬ flOk c a b m) (hat : TAt true n f i (supA1 a b) true) : TFl own c n f i m (opA 0 0) f := by
  have hl := hW_len n f
  have ha : Tri En 92 [cnfA 0 c, .int .i64 a] [.tab own (.int .i64) c.cl] (.int .u64 (allN c a)) [.tab own (.int .i64) c.cl] := all_of own c hc a
  have e1 := andNot_eq m (allN c a)
  have e2 := and_eq m b hm hb
  by_cases hs : subM m (allN c a)
  · have h3 : m &&& b ≠ 0 := fun h => hok ⟨hs, h⟩
    rw [(sub_zero hm).1 hs] at e1
    generalize m &&& b = x at *
    have e3 : (IntKind.u64.wrap (BitVec.ofInt IntKind.u64.bits (m : Int) &&& ~~~ BitVec.ofInt IntKind.u64.bits (allN c a : Int)).toNat != 0) = false := by rw [e1]; rfl
    have e4 : (IntKind.u64.wrap (BitVec.ofInt IntKind.u64.bits (m : Int) &&& BitVec.ofInt IntKind.u64.bits (b : Int)).toNat != 0) = true := by rw [e2]; simp; omega
    clear e1 e2
    generalize allN c a = z at *
    refine Tri.of Tryd.func71 rfl Tryd.call71 rfl ?_
    refine Goods.fin 2000 [.c (.of hat), .s 23 (some false) true true, .s 27 (some false) true true, .c (.of ha), .s 38 (some false) true true, .s 44 (some true) true true] mixed Tryd.func71 ?_
    show Yes _
    repeat' apply And.intro
    (all_goals first | rfl | assumption | trivial | omega | (simp [-List.getD_eq_getElem?_getD] <;> omega) | (simp (disch := omega) only [w64, wu64] <;> omega) | (simp (disch := omega) [-List.getD_eq_getElem?_getD, List.getD_cons_zero, List.getD_cons_succ, kCast_self, dfl_pair, dfl_int, w64, wu64] <;> omega) | (rw [Bool.eq_iff_iff]; simp (disch := omega) [-List.getD_eq_getElem?_getD, List.getD_cons_zero, List.getD_cons_succ, kCast_self, dfl_pair, dfl_int, w64, wu64] <;> omega) | (simp_all [-List.getD_eq_getElem?_getD] <;> omega))
  · have h3 : andNotN m (allN c a) ≠ 0 := fun h => hs ((sub_zero hm).2 h)
    generalize andNotN m (allN c a) = x at *
    have e3 : (IntKind.u64.wrap (BitVec.ofInt IntKind.u64.bits (m : Int) &&& ~~~ BitVec.ofInt IntKind.u64.bits (allN c a : Int)).toNat != 0) = true := by rw [e1]; simp; omega
    clear e1 e2
    generalize allN c a = z at *
    refine Tri.of Tryd.func71 rfl Tryd.call71 rfl ?_
    refine Goods.fin 2000 [.c (.of hat), .s 23 (some false) true true, .s 27 (some false) true true, .c (.of ha), .s 38 (some true) true true] mixed Tryd.func71 ?_
    show Yes _
    repeat' apply And.intro
    (all_goals first | rfl | assumption | trivial | omega | (simp [-List.getD_eq_getElem?_getD] <;> omega) | (simp (disch := omega) only [w64, wu64] <;> omega) | (simp (disch := omega) [-List.getD_eq_getElem?_getD, List.getD_cons_zero, List.getD_cons_succ, kCast_self, dfl_pair, dfl_int, w64, wu64] <;> omega) | (rw [Bool.eq_iff_iff]; simp (disch := omega) [-List.getD_eq_getElem?_getD, List.getD_cons_zero, List.getD_cons_succ, kCast_self, dfl_pair, dfl_int, w64, wu64] <;> omega) | (simp_all [-List.getD_eq_getElem?_getD] <;> omega))
theorem flush_all (own : Bool) (c : Cnf) (hc : c.Ok) (n : Nat) (hn : n ≤ 64) (f : SupF) (i a b m : Nat) (hi : i < n) (ha8 : a < 256) (hm : m < 18446744073709551616) (hb : b < 18446744073709551616) (h0 : m ≠ 0) (hok : flOk c a b m) (heq : b ||| m = allN c a) (hat : TAt true n f i (supA1 a b) true) : TFl own c n f i m (opA 1 0) (updS f i (0, 0, 0)) := by
  have hl := hW_len n f
  have ha : Tri En 92 [cnfA 0 c, .int .i64 a] [.tab own (.int .i64) c.cl] (.int .u64 (allN c a)) [.tab own (.int .i64) c.cl] := all_of own c hc a
  have e1 := andNot_eq m (allN c a)
  have e2 := and_eq m b hm hb
  have e5 := or_eq b m hb hm
  rw [(sub_zero hm).1 hok.1] at e1
  rw [hok.2] at e2
  have e3 : (IntKind.u64.wrap (BitVec.ofInt IntKind.u64.bits (m : Int) &&& ~~~ BitVec.ofInt IntKind.u64.bits (allN c a : Int)).toNat != 0) = false := by rw [e1]; rfl
  have e4 : (IntKind.u64.wrap (BitVec.ofInt IntKind.u64.bits (m : Int) &&& BitVec.ofInt IntKind.u64.bits (b : Int)).toNat != 0) = false := by rw [e2]; rfl
  have e6 : (IntKind.u64.wrap (BitVec.ofInt IntKind.u64.bits (b : Int) ||| BitVec.ofInt IntKind.u64.bits (m : Int)).toNat == (allN c a : Int)) = true := by rw [e5]; simp; omega
  have hp1 := put_tri n hn f i hi 0 0 0 (by omega) (by omega)
  clear e1 e2 hok heq
  generalize b ||| m = y at *
  generalize allN c a = z at *
  refine Tri.of Tryd.func71 rfl Tryd.call71 rfl ?_
  refine Goods.fin 2000 [.c (.of hat), .s 23 (some false) true true, .s 27 (some false) true true, .c (.of ha), .s 38 (some false) true true, .s 44 (some false) true true, .b true, .c (.of hp1)] mixed Tryd.func71 ?_
  show Yes _
  repeat' apply And.intro
  (all_goals first | rfl | assumption | trivial | omega | (simp [-List.getD_eq_getElem?_getD] <;> omega) | (simp (disch := omega) only [w64, wu64] <;> omega) | (simp (disch := omega) [-List.getD_eq_getElem?_getD, List.getD_cons_zero, List.getD_cons_succ, kCast_self, dfl_pair, dfl_int, w64, wu64] <;> omega) | (rw [Bool.eq_iff_iff]; simp (disch := omega) [-List.getD_eq_getElem?_getD, List.getD_cons_zero, List.getD_cons_succ, kCast_self, dfl_pair, dfl_int, w64, wu64] <;> omega) | (simp_all [-List.getD_eq_getElem?_getD] <;> omega))
theorem flush_some (own : Bool) (c : Cnf) (hc : c.Ok) (n : Nat) (hn : n ≤ 64) (f : SupF) (i a b m : Nat) (hi : i < n) (ha8 : a < 256) (hm : m < 18446744073709551616) (hb : b < 18446744073709551616) (h0 : m ≠ 0) (hok : flOk c a b m) (heq : b ||| m ≠ allN c a) (hat : TAt true n f i (supA1 a b) true) : TFl own c n f i m (opA 1 0) (updS f i (1, a, b ||| m)) := by
  have hl := hW_len n f
  have ha : Tri En 92 [cnfA 0 c, .int .i64 a] [.tab own (.int .i64) c.cl] (.int .u64 (allN c a)) [.tab own (.int .i64) c.cl] := all_of own c hc a
  have e1 := andNot_eq m (allN c a)
  have e2 := and_eq m b hm hb
  have e5 := or_eq b m hb hm
  rw [(sub_zero hm).1 hok.1] at e1
  rw [hok.2] at e2
  have e3 : (IntKind.u64.wrap (BitVec.ofInt IntKind.u64.bits (m : Int) &&& ~~~ BitVec.ofInt IntKind.u64.bits (allN c a : Int)).toNat != 0) = false := by rw [e1]; rfl
  have e4 : (IntKind.u64.wrap (BitVec.ofInt IntKind.u64.bits (m : Int) &&& BitVec.ofInt IntKind.u64.bits (b : Int)).toNat != 0) = false := by rw [e2]; rfl
  have e6 : (IntKind.u64.wrap (BitVec.ofInt IntKind.u64.bits (b : Int) ||| BitVec.ofInt IntKind.u64.bits (m : Int)).toNat == (allN c a : Int)) = false := by rw [e5]; simp; omega
  have hp1 := put_tri n hn f i hi 1 a (b ||| m) (by omega) ha8
  clear e1 e2 hok heq
  generalize b ||| m = y at *
  generalize allN c a = z at *
  refine Tri.of Tryd.func71 rfl Tryd.call71 rfl ?_
  refine Goods.fin 2000 [.c (.of hat), .s 23 (some false) true true, .s 27 (some false) true true, .c (.of ha), .s 38 (some false) true true, .s 44 (some false) true true, .b false, .c (.of hp1)] mixed Tryd.func71 ?_
  show Yes _
  repeat' apply And.intro
  (all_goals first | rfl | assumption | trivial | omega | (simp [-List.getD_eq_getElem?_getD] <;> omega) | (simp (disch := omega) only [w64, wu64] <;> omega) | (simp (disch := omega) [-List.getD_eq_getElem?_getD, List.getD_cons_zero, List.getD_cons_succ, kCast_self, dfl_pair, dfl_int, w64, wu64] <;> omega) | (rw [Bool.eq_iff_iff]; simp (disch := omega) [-List.getD_eq_getElem?_getD, List.getD_cons_zero, List.getD_cons_succ, kCast_self, dfl_pair, dfl_int, w64, wu64] <;> omega) | (simp_all [-List.getD_eq_getElem?_getD] <;> omega))
end Go.Proofs.YtcicfbccdgkfhaaDoor.E
