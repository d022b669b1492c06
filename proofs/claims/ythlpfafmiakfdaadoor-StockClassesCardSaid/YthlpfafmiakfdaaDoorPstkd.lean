/- Package stock: what Spill takes out of a class's blocks. -/
import Derived.Test.YthlpfafmiakfdaaDoorPstkn
namespace Go.Proofs.YthlpfafmiakfdaaDoor.E
set_option linter.unusedSimpArgs false
set_option linter.unusedVariables false
open Go
set_option maxRecDepth 100000
/-- What the deletion has found: the set, the map. -/
structure DS where
  m : Nat
  es : TMap
def delS (sup : Int) (d : DS) (b : Blk) : DS := if b.1 = sup then ⟨withN d.m b.2, mdel (kk := BlkK) b d.es⟩ else d
def dlS (sup : Int) (d : DS) (l : List Blk) : DS := l.foldl (delS sup) d
theorem delS_lt {sup : Int} {d : DS} {b : Blk} (h : d.m < 18446744073709551616) : (delS sup d b).m < 18446744073709551616 := by
  unfold delS; split
  · exact withN_lt h _
  · exact h
theorem dlS_lt {sup : Int} : ∀ {l : List Blk} {d : DS}, d.m < 18446744073709551616 → (dlS sup d l).m < 18446744073709551616
  | [], _, h => h
  | b :: l, d, h => dlS_lt (l := l) (delS_lt h)
/-- The closure's objects: the superblock, the set, the stock's pointer, the class, and the stock, its class's blocks last. -/
abbrev cloO (c : Cnf) (k : Nat) (P Q : RawP) (sup : Int) (d : DS) (m cl : Nat) (zs : List Blk) : List AObj :=
  [.cells [.int .i64 sup], .cells [.int .u64 d.m], .cells [.ptr 4 0 0], .cells [.int .i64 k], stkC 5 c, clsO c, .mix k P (.slice 8 0 m), .mix k Q (.map 9), .tab true BlkK zs, .map BlkK .unit cl d.es]
theorem clo_tri (c : Cnf) (hc : c.cl.length ≤ 16) (k : Nat) (hk : k < c.cl.length) (P Q : RawP) (sup : Int) (d : DS) (m cl : Nat) (zs : List Blk) (b : Blk) (hd : d.m < 18446744073709551616) :
    Tri En 32 [blkA b, .ptr 0 0 0, .ptr 1 0 0, .ptr 2 0 0, .ptr 3 0 0] (cloO c k P Q sup d m cl zs) (.bl (decide (b.1 = sup))) (cloO c k P Q sup (delS sup d b) m cl zs) := by
  have h1 := with_tri d.m hd b.2
  refine Tri.of Tryd.func32 rfl Tryd.call32 rfl ?_
  by_cases hb : b.1 = sup
  · have e : delS sup d b = ⟨withN d.m b.2, mdel (kk := BlkK) b d.es⟩ := if_pos hb
    rw [e, decide_eq_true hb]
    subst hb
    refine Goods.fin 2000 [.b false, .c (.of h1)] mixed Tryd.func32 ?_
    show Yes _
    repeat' apply And.intro
    (all_goals first | rfl | assumption | trivial | omega | (simp [-List.getD_eq_getElem?_getD] <;> omega) | (simp (disch := omega) only [w64, wu64] <;> omega) | (simp (disch := omega) [-List.getD_eq_getElem?_getD, List.getD_cons_zero, List.getD_cons_succ, kCast_self, dfl_pair, dfl_int, w64, wu64] <;> omega) | (rw [Bool.eq_iff_iff]; simp (disch := omega) [-List.getD_eq_getElem?_getD, List.getD_cons_zero, List.getD_cons_succ, kCast_self, dfl_pair, dfl_int, w64, wu64] <;> omega) | (simp_all [-List.getD_eq_getElem?_getD] <;> omega))
  · have e : delS sup d b = d := if_neg hb
    rw [e, decide_eq_false hb]
    refine Goods.fin 2000 [.b true] mixed Tryd.func32 ?_
    show Yes _
    repeat' apply And.intro
    (all_goals first | rfl | assumption | trivial | omega | (simp [-List.getD_eq_getElem?_getD] <;> omega) | (simp (disch := omega) only [w64, wu64] <;> omega) | (simp (disch := omega) [-List.getD_eq_getElem?_getD, List.getD_cons_zero, List.getD_cons_succ, kCast_self, dfl_pair, dfl_int, w64, wu64] <;> omega) | (rw [Bool.eq_iff_iff]; simp (disch := omega) [-List.getD_eq_getElem?_getD, List.getD_cons_zero, List.getD_cons_succ, kCast_self, dfl_pair, dfl_int, w64, wu64] <;> omega) | (simp_all [-List.getD_eq_getElem?_getD] <;> omega))
end Go.Proofs.YthlpfafmiakfdaaDoor.E
