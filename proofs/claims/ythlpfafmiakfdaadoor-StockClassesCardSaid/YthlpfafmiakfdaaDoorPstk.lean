/- Package stock: what is read, pushed and popped. -/
import Derived.Test.YthlpfafmiakfdaaDoorPstkm
import Derived.Test.YthlpfafmiakfdaaDoorEr
import Derived.Test.YthlpfafmiakfdaaDoorPmaskr
namespace Go.Proofs.YthlpfafmiakfdaaDoor.E
set_option linter.unusedSimpArgs false
set_option linter.unusedVariables false
open Go
set_option maxRecDepth 100000
abbrev RawP := List Value → List Value → Prop
def stkC (j : Nat) (c : Cnf) : AObj := .cells [.int .i64 c.w, .int .i64 c.s, .int .i64 c.b, .int .i64 c.t, .slice j 0 c.cl.length, .slice (Nat.succ j) 0 c.cl.length, .slice (Nat.succ (Nat.succ j)) 0 c.cl.length]
abbrev clsO (c : Cnf) : AObj := .tab true (.int .i64) c.cl
/-- A stock, one class of which is known: its blocks, the map's clock, the map. -/
abbrev stk (c : Cnf) (k : Nat) (P Q : RawP) (zs : List Blk) (m cl : Nat) (es : TMap) : List AObj := [stkC 1 c, clsO c, .mix k P (.slice 4 0 m), .mix k Q (.map 5), .tab true BlkK zs, .map BlkK .unit cl es]
abbrev stkG (c : Cnf) (k : Nat) (P Q : RawP) (zs : List Blk) (m cl : Nat) (es : TMap) : List AObj := [stkC 1 c, clsO c, .mix k P (.slice 6 0 m), .mix k Q (.map 5), .gone, .map BlkK .unit cl es, .tab true BlkK zs]
theorem sis_tri (c : Cnf) (k : Nat) (P Q : RawP) (zs : List Blk) (m cl : Nat) (es : TMap) (hc : c.cl.length ≤ 16) (hk : k < c.cl.length) : Tri En 28 [.ptr 0 0 0, .int .i64 k] (stk c k P Q zs m cl es) (.bl true) (stk c k P Q zs m cl es) := by
  refine Tri.of Tryd.func28 rfl Tryd.call28 rfl ?_
  refine Goods.fin 2000 [.s 6 (some true) true true, .s 14 (some true) true true] mixed Tryd.func28 ?_
  show Yes _
  repeat' apply And.intro
  (all_goals first | rfl | assumption | trivial | omega | (simp [-List.getD_eq_getElem?_getD] <;> omega) | (simp (disch := omega) only [w64, wu64] <;> omega) | (simp (disch := omega) [-List.getD_eq_getElem?_getD, List.getD_cons_zero, List.getD_cons_succ, kCast_self, dfl_pair, dfl_int, w64, wu64] <;> omega) | (rw [Bool.eq_iff_iff]; simp (disch := omega) [-List.getD_eq_getElem?_getD, List.getD_cons_zero, List.getD_cons_succ, kCast_self, dfl_pair, dfl_int, w64, wu64] <;> omega) | (simp_all [-List.getD_eq_getElem?_getD] <;> omega))
theorem slen_tri (c : Cnf) (k : Nat) (P Q : RawP) (zs : List Blk) (m cl : Nat) (es : TMap) (hc : c.cl.length ≤ 16) (hk : k < c.cl.length) : Tri En 19 [.ptr 0 0 0, .int .i64 k] (stk c k P Q zs m cl es) (.int .i64 m) (stk c k P Q zs m cl es) := by
  have h1 := sis_tri c k P Q zs m cl es hc hk
  refine Tri.of Tryd.func19 rfl Tryd.call19 rfl ?_
  refine Goods.fin 2000 [.c (.of h1)] mixed Tryd.func19 ?_
  show Yes _
  repeat' apply And.intro
  (all_goals first | rfl | assumption | trivial | omega | (simp [-List.getD_eq_getElem?_getD] <;> omega) | (simp (disch := omega) only [w64, wu64] <;> omega) | (simp (disch := omega) [-List.getD_eq_getElem?_getD, List.getD_cons_zero, List.getD_cons_succ, kCast_self, dfl_pair, dfl_int, w64, wu64] <;> omega) | (rw [Bool.eq_iff_iff]; simp (disch := omega) [-List.getD_eq_getElem?_getD, List.getD_cons_zero, List.getD_cons_succ, kCast_self, dfl_pair, dfl_int, w64, wu64] <;> omega) | (simp_all [-List.getD_eq_getElem?_getD] <;> omega))
theorem push_out (c : Cnf) (h : c.Ok) (k : Nat) (P Q : RawP) (zs : List Blk) (m cl : Nat) (es : TMap) (b : Blk) (hk : k < c.cl.length) (hb : ¬ inB c k b) : Tri En 14 [.ptr 0 0 0, .int .i64 k, blkA b] (stk c k P Q zs m cl es) (.bl false) (stkG c k P Q zs m cl es) := by
  have l1 := h.l1
  have h1 := aadr_tri true c h k b
  have e := (adrN_zero h).2 hb
  rw [e] at h1
  refine Tri.of Tryd.func14 rfl Tryd.call14 rfl ?_
  refine Goods.fin 2000 [.c (.of h1), .b true] mixed Tryd.func14 ?_
  show Yes _
  repeat' apply And.intro
  (all_goals first | rfl | assumption | trivial | omega | (simp [-List.getD_eq_getElem?_getD] <;> omega) | (simp (disch := omega) only [w64, wu64] <;> omega) | (simp (disch := omega) [-List.getD_eq_getElem?_getD, List.getD_cons_zero, List.getD_cons_succ, kCast_self, dfl_pair, dfl_int, w64, wu64] <;> omega) | (rw [Bool.eq_iff_iff]; simp (disch := omega) [-List.getD_eq_getElem?_getD, List.getD_cons_zero, List.getD_cons_succ, kCast_self, dfl_pair, dfl_int, w64, wu64] <;> omega) | (simp_all [-List.getD_eq_getElem?_getD] <;> omega))
theorem push_there (c : Cnf) (h : c.Ok) (k : Nat) (P Q : RawP) (zs : List Blk) (m cl : Nat) (es : TMap) (b : Blk) (hk : k < c.cl.length) (hb : inB c k b) (hm : mhas (kk := BlkK) b es = true) : Tri En 14 [.ptr 0 0 0, .int .i64 k, blkA b] (stk c k P Q zs m cl es) (.bl false) (stkG c k P Q zs m cl es) := by
  have l1 := h.l1
  have h1 := aadr_tri true c h k b
  obtain ⟨e1, e2⟩ := adrN_pos h hb
  generalize adrN c k b = x at *
  refine Tri.of Tryd.func14 rfl Tryd.call14 rfl ?_
  refine Goods.fin 2000 [.c (.of h1), .b false, .b true] mixed Tryd.func14 ?_
  show Yes _
  repeat' apply And.intro
  (all_goals first | rfl | assumption | trivial | omega | (simp [-List.getD_eq_getElem?_getD] <;> omega) | (simp (disch := omega) only [w64, wu64] <;> omega) | (simp (disch := omega) [-List.getD_eq_getElem?_getD, List.getD_cons_zero, List.getD_cons_succ, kCast_self, dfl_pair, dfl_int, w64, wu64] <;> omega) | (rw [Bool.eq_iff_iff]; simp (disch := omega) [-List.getD_eq_getElem?_getD, List.getD_cons_zero, List.getD_cons_succ, kCast_self, dfl_pair, dfl_int, w64, wu64] <;> omega) | (simp_all [-List.getD_eq_getElem?_getD] <;> omega))
theorem push_yes (c : Cnf) (h : c.Ok) (k : Nat) (P Q : RawP) (zs : List Blk) (m cl : Nat) (es : TMap) (b : Blk) (hk : k < c.cl.length) (hb : inB c k b) (hm : mhas (kk := BlkK) b es = false) (hz : m ≤ zs.length) (hs : m ≤ 1000000) : Tri En 14 [.ptr 0 0 0, .int .i64 k, blkA b] (stk c k P Q zs m cl es) (.bl true) (stkG c k P Q (zs.take m ++ [b]) (m + 1) (mclock (kk := BlkK) b cl es) (mput (kk := BlkK) (vk := .unit) b () cl es)) := by
  have l1 := h.l1
  have h1 := aadr_tri true c h k b
  obtain ⟨e1, e2⟩ := adrN_pos h hb
  generalize adrN c k b = x at *
  refine Tri.of Tryd.func14 rfl Tryd.call14 rfl ?_
  refine Goods.fin 2000 [.c (.of h1), .b false, .b false, .s 53 none false true] mixed Tryd.func14 ?_
  show Yes _
  repeat' apply And.intro
  (all_goals first | rfl | assumption | trivial | omega | (simp [-List.getD_eq_getElem?_getD] <;> omega) | (simp (disch := omega) only [w64, wu64] <;> omega) | (simp (disch := omega) [-List.getD_eq_getElem?_getD, List.getD_cons_zero, List.getD_cons_succ, kCast_self, dfl_pair, dfl_int, w64, wu64] <;> omega) | (rw [Bool.eq_iff_iff]; simp (disch := omega) [-List.getD_eq_getElem?_getD, List.getD_cons_zero, List.getD_cons_succ, kCast_self, dfl_pair, dfl_int, w64, wu64] <;> omega) | (simp_all [-List.getD_eq_getElem?_getD] <;> omega))
theorem pop_none (c : Cnf) (k : Nat) (P Q : RawP) (zs : List Blk) (cl : Nat) (es : TMap) (hc : c.cl.length ≤ 16) (hk : k < c.cl.length) : Tri En 18 [.ptr 0 0 0, .int .i64 k] (stk c k P Q zs 0 cl es) (.tuple [blkA (0, 0), .bl false]) (stk c k P Q zs 0 cl es) := by
  have h1 := slen_tri c k P Q zs 0 cl es hc hk
  refine Tri.of Tryd.func18 rfl Tryd.call18 rfl ?_
  refine Goods.fin 2000 [.c (.of h1), .b true] mixed Tryd.func18 ?_
  show Yes _
  repeat' apply And.intro
  (all_goals first | rfl | assumption | trivial | omega | (simp [-List.getD_eq_getElem?_getD] <;> omega) | (simp (disch := omega) only [w64, wu64] <;> omega) | (simp (disch := omega) [-List.getD_eq_getElem?_getD, List.getD_cons_zero, List.getD_cons_succ, kCast_self, dfl_pair, dfl_int, w64, wu64] <;> omega) | (rw [Bool.eq_iff_iff]; simp (disch := omega) [-List.getD_eq_getElem?_getD, List.getD_cons_zero, List.getD_cons_succ, kCast_self, dfl_pair, dfl_int, w64, wu64] <;> omega) | (simp_all [-List.getD_eq_getElem?_getD] <;> omega))
theorem pop_some (c : Cnf) (k : Nat) (P Q : RawP) (zs : List Blk) (m cl : Nat) (es : TMap) (b : Blk) (hc : c.cl.length ≤ 16) (hk : k < c.cl.length) (hz : m < zs.length) (hm : m ≤ 1000000) (hb : zs.getD m (0, 0) = b) : Tri En 18 [.ptr 0 0 0, .int .i64 k] (stk c k P Q zs (m + 1) cl es) (.tuple [blkA b, .bl true]) (stk c k P Q zs m cl (mdel (kk := BlkK) b es)) := by
  have h1 := slen_tri c k P Q zs (m + 1) cl es hc hk
  refine Tri.of Tryd.func18 rfl Tryd.call18 rfl ?_
  refine Goods.fin 2000 [.c (.of h1), .b false] mixed Tryd.func18 ?_
  show Yes _
  repeat' apply And.intro
  (all_goals first | rfl | assumption | trivial | omega | (simp [-List.getD_eq_getElem?_getD, hb] <;> omega) | (simp (disch := omega) only [w64, wu64] <;> omega) | (simp (disch := omega) [-List.getD_eq_getElem?_getD, List.getD_cons_zero, List.getD_cons_succ, kCast_self, dfl_pair, dfl_int, w64, wu64, hb] <;> omega) | (rw [Bool.eq_iff_iff]; simp (disch := omega) [-List.getD_eq_getElem?_getD, List.getD_cons_zero, List.getD_cons_succ, kCast_self, dfl_pair, dfl_int, w64, wu64, hb] <;> omega) | (simp_all [-List.getD_eq_getElem?_getD] <;> omega))
end Go.Proofs.YthlpfafmiakfdaaDoor.E
