/- Package hall: a hall of superblocks, as it is at first. -/
import Derived.Test.YtcicfbccdgkfhaaDoorPref
import Derived.Test.YtcicfbccdgkfhaaDoorPrefb
import Derived.Test.YtcicfbccdgkfhaaDoorPfrm
import Derived.Test.YtcicfbccdgkfhaaDoorPmay
namespace Go.Proofs.YtcicfbccdgkfhaaDoor.E
set_option linter.unusedSimpArgs false
set_option linter.unusedVariables false
open Go
set_option maxRecDepth 100000

theorem meth_words : Meth En 82 "Words" 33 := fun _ _ => by kernel_rfl
theorem heart_new (own : Bool) (c : Cnf) (hl : c.cl.length ≤ 16) : Tri En 32 [cnfA 0 c] [.tab own (.int .i64) c.cl] (cnfA 1 c) [.tab own (.int .i64) c.cl, .tab true (.int .i64) c.cl] := by
  have hc := conf_copy own c (by omega)
  refine Tri.of Tryd.func32 rfl Tryd.call32 rfl ?_
  refine Goods.fin 2000 [.c (.of hc)] mixed Tryd.func32 ?_
  show Yes _
  repeat' apply And.intro
  (all_goals first | rfl | assumption | trivial | omega | (simp [-List.getD_eq_getElem?_getD] <;> omega) | (simp (disch := omega) only [w64, wu64] <;> omega) | (simp (disch := omega) [-List.getD_eq_getElem?_getD, List.getD_cons_zero, List.getD_cons_succ, kCast_self, dfl_pair, dfl_int, w64, wu64] <;> omega) | (rw [Bool.eq_iff_iff]; simp (disch := omega) [-List.getD_eq_getElem?_getD, List.getD_cons_zero, List.getD_cons_succ, kCast_self, dfl_pair, dfl_int, w64, wu64] <;> omega) | (simp_all [-List.getD_eq_getElem?_getD] <;> omega))
theorem heart_words (own : Bool) (c : Cnf) (h : c.Ok) (n : Nat) (hn : (n : Int) = c.s) : Tri En 33 [cnfA 0 c] [.tab own (.int .i64) c.cl] (.int .i64 (2 * n : Nat)) [.tab own (.int .i64) c.cl] := by
  have s1 := h.s1
  have hs := conf_state own c (by omega) s1
  rw [← hn] at hs
  refine Tri.of Tryd.func33 rfl Tryd.call33 rfl ?_
  refine Goods.fin 2000 [.c (.of hs)] mixed Tryd.func33 ?_
  show Yes _
  repeat' apply And.intro
  (all_goals first | rfl | assumption | trivial | omega | (simp [-List.getD_eq_getElem?_getD] <;> omega) | (simp (disch := omega) only [w64, wu64] <;> omega) | (simp (disch := omega) [-List.getD_eq_getElem?_getD, List.getD_cons_zero, List.getD_cons_succ, kCast_self, dfl_pair, dfl_int, w64, wu64] <;> omega) | (rw [Bool.eq_iff_iff]; simp (disch := omega) [-List.getD_eq_getElem?_getD, List.getD_cons_zero, List.getD_cons_succ, kCast_self, dfl_pair, dfl_int, w64, wu64] <;> omega) | (simp_all [-List.getD_eq_getElem?_getD] <;> omega))
def supA0 : AV := .agg [.bl true, .int .i64 (-1), .int .i64 0, .int .u64 0]
def supAn : AV := .agg [.bl false, .int .i64 0, .int .i64 0, .int .u64 0]
theorem zat_none (own : Bool) (n : Nat) (hn : n ≤ 64) (W : List Int) (hl : W.length = 2 * n) (i : Int) (hi : ¬ (0 ≤ i ∧ i < n)) : Tri En 41 [.slice 0 0 (2 * n), .int .i64 i] [.tab own (.int .u64) W] (.tuple [supAn, .bl false]) [.tab own (.int .u64) W] := by
  refine Tri.of Tryd.func41 rfl Tryd.call41 rfl ?_
  by_cases h0 : i < 0
  · refine Goods.fin 2000 [.s 9 (some true) true true] mixed Tryd.func41 ?_
    show Yes _
    repeat' apply And.intro
    (all_goals first | rfl | assumption | trivial | omega | (simp [-List.getD_eq_getElem?_getD] <;> omega) | (simp (disch := omega) only [w64, wu64] <;> omega) | (simp (disch := omega) [-List.getD_eq_getElem?_getD, List.getD_cons_zero, List.getD_cons_succ, kCast_self, dfl_pair, dfl_int, w64, wu64] <;> omega) | (rw [Bool.eq_iff_iff]; simp (disch := omega) [-List.getD_eq_getElem?_getD, List.getD_cons_zero, List.getD_cons_succ, kCast_self, dfl_pair, dfl_int, w64, wu64] <;> omega) | (simp_all [-List.getD_eq_getElem?_getD] <;> omega))
  · refine Goods.fin 2000 [.s 9 (some false) true true, .s 15 (some true) true true] mixed Tryd.func41 ?_
    show Yes _
    repeat' apply And.intro
    (all_goals first | rfl | assumption | trivial | omega | (simp [-List.getD_eq_getElem?_getD] <;> omega) | (simp (disch := omega) only [w64, wu64] <;> omega) | (simp (disch := omega) [-List.getD_eq_getElem?_getD, List.getD_cons_zero, List.getD_cons_succ, kCast_self, dfl_pair, dfl_int, w64, wu64] <;> omega) | (rw [Bool.eq_iff_iff]; simp (disch := omega) [-List.getD_eq_getElem?_getD, List.getD_cons_zero, List.getD_cons_succ, kCast_self, dfl_pair, dfl_int, w64, wu64] <;> omega) | (simp_all [-List.getD_eq_getElem?_getD] <;> omega))
theorem zat_0 (own : Bool) (n : Nat) (hn : n ≤ 64) (W : List Int) (hl : W.length = 2 * n) (hz : ∀ i, i < 2 * n → W.getD i 0 = ((0 : Nat) : Int)) (i : Nat) (hi : i < n) : Tri En 41 [.slice 0 0 (2 * n), .int .i64 i] [.tab own (.int .u64) W] (.tuple [supA0, .bl true]) [.tab own (.int .u64) W] := by
  have g1 := get_yes 0 8 8 (by omega) f1
  have g0 := get_yes 0 0 8 (by omega) f0
  have z1 : getN 0 8 8 = 0 := by simp [getN]
  have z0 : getN 0 0 8 = 0 := by simp [getN]
  rw [z1] at g1
  rw [z0] at g0
  have i0 : (IntKind.i64.wrap (2 * (i : Int))).toNat = 2 * i := by rw [w64 (by omega) (by omega)]; omega
  have h0 := hz (2 * i) (by omega)
  rw [← i0] at h0
  refine Tri.of Tryd.func41 rfl Tryd.call41 rfl ?_
  refine Goods.fin 2000 [.s 9 (some false) true true, .s 15 (some false) true true, .k 26 (.of g1), .k 31 (.of g0), .b false, .b false, .b false] mixed Tryd.func41 ?_
  show Yes _
  repeat' apply And.intro
  (all_goals first | rfl | assumption | trivial | omega | (simp [-List.getD_eq_getElem?_getD] <;> omega) | (simp (disch := omega) only [w64, wu64] <;> omega) | (simp (disch := omega) [-List.getD_eq_getElem?_getD, List.getD_cons_zero, List.getD_cons_succ, kCast_self, dfl_pair, dfl_int, w64, wu64] <;> omega) | (rw [Bool.eq_iff_iff]; simp (disch := omega) [-List.getD_eq_getElem?_getD, List.getD_cons_zero, List.getD_cons_succ, kCast_self, dfl_pair, dfl_int, w64, wu64] <;> omega) | (simp_all [-List.getD_eq_getElem?_getD] <;> omega))
/-- A hall of superblocks: its memory is object i; its own classes lie in object j; what was asked, and the calls, in k and q. -/
def hallC (i j k q : Nat) (b : Int) (n : Nat) (c : Cnf) : AObj := .cells [.ptr i 0 0, .int .i64 b, .int .i64 (2 * n : Nat), .int .i64 c.w, .iface 82 (cnfA j c), .int .i64 c.t, .slice k 0 c.w.toNat, .slice q 0 c.w.toNat, .nilslice]
def askedT (c : Cnf) : AObj := .tab true (.int .u64) (List.replicate c.w.toNat 0)
def callsT (c : Cnf) : AObj := .tab true .raw (List.replicate c.w.toNat (.pointer none))
def hallSz (c : Cnf) (n : Nat) : Int := 1 + 4 * c.w + 2 * c.w * fRec (2 * n : Nat) c.w
theorem hfr {c : Cnf} (h : c.Ok) {n : Nat} (hn : (n : Int) = c.s) : FrOk 0 ((2 * n : Nat) : Int) c.w := by
  have := h.s1; have := h.w0; have := h.w1
  exact ⟨by omega, by omega, by omega, by omega, by omega, by omega⟩
theorem hall_size (own : Bool) (c : Cnf) (h : c.Ok) (n : Nat) (hn : (n : Int) = c.s) : Tri En 43 [.iface 82 (cnfA 0 c), .int .i64 c.w] [.tab own (.int .i64) c.cl] (.int .i64 (hallSz c n)) [.tab own (.int .i64) c.cl] := by
  have hw := heart_words own c h n hn
  have fs := fr_size (hfr h hn)
  unfold hallSz
  generalize 1 + 4 * c.w + 2 * c.w * fRec ((2 * n : Nat) : Int) c.w = z at *
  refine Tri.of Tryd.func43 rfl Tryd.call43 rfl ?_
  refine Goods.fin 2000 [.c (.ofM _ _ meth_words hw), .c (.of fs)] mixed Tryd.func43 ?_
  show Yes _
  repeat' apply And.intro
  (all_goals first | rfl | assumption | trivial | omega | (simp [-List.getD_eq_getElem?_getD] <;> omega) | (simp (disch := omega) only [w64, wu64] <;> omega) | (simp (disch := omega) [-List.getD_eq_getElem?_getD, List.getD_cons_zero, List.getD_cons_succ, kCast_self, dfl_pair, dfl_int, w64, wu64] <;> omega) | (rw [Bool.eq_iff_iff]; simp (disch := omega) [-List.getD_eq_getElem?_getD, List.getD_cons_zero, List.getD_cons_succ, kCast_self, dfl_pair, dfl_int, w64, wu64] <;> omega) | (simp_all [-List.getD_eq_getElem?_getD] <;> omega))
set_option maxHeartbeats 4000000 in
theorem hall_new (own : Bool) (c : Cnf) (h : c.Ok) (n : Nat) (hn : (n : Int) = c.s) (m m2 : MemS) (hm2 : (m.acc 2 0).put 0 (refN 0 0 0 : Nat) = m2) : Tri En 44 [.ptr 0 0 0, .int .i64 0, .int .i64 c.w, .int .i64 c.t, .iface 82 (cnfA 1 c)] [memC 2 m, .tab own (.int .i64) c.cl, memT m] (.ptr 3 0 0) [memC 2 m2, .tab own (.int .i64) c.cl, memT m2, hallC 0 1 4 5 0 n c, askedT c, callsT c] := by
  have w0 := h.w0
  have w1 := h.w1
  have hw := heart_words own c h n hn
  have f1 := fr_head (hfr h hn)
  have o1 := of_yes 0 0 0 (by omega) (by omega) (by omega)
  have st := mem_store m 0 (refN 0 0 0 : Nat)
  rw [hm2] at st
  clear hm2
  generalize refN 0 0 0 = z at *
  refine Tri.of Tryd.func44 rfl Tryd.call44 rfl ?_
  refine Goods.fin 2000 [.c (.ofM _ _ meth_words hw), .k 19 (.of f1), .k 21 (.of o1), .k 22 (.of st)] mixed Tryd.func44 ?_
  show Yes _
  repeat' apply And.intro
  (all_goals first | rfl | assumption | trivial | omega | (simp [-List.getD_eq_getElem?_getD] <;> omega) | (simp (disch := omega) only [w64, wu64] <;> omega) | (simp (disch := omega) [-List.getD_eq_getElem?_getD, List.getD_cons_zero, List.getD_cons_succ, kCast_self, dfl_pair, dfl_int, w64, wu64] <;> omega) | (rw [Bool.eq_iff_iff]; simp (disch := omega) [-List.getD_eq_getElem?_getD, List.getD_cons_zero, List.getD_cons_succ, kCast_self, dfl_pair, dfl_int, w64, wu64] <;> omega) | (simp_all [-List.getD_eq_getElem?_getD] <;> omega))
end Go.Proofs.YtcicfbccdgkfhaaDoor.E
