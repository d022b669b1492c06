/- LiveDoes: the law's contract: all that is live, at last. -/
import Derived.Test.YtokblanedeiegaaDoorL13i
namespace Go.Proofs.YtokblanedeiegaaDoor.E
open Go
set_option maxRecDepth 100000

noncomputable abbrev doS2 (c : Cnf) (l : List ActT) (L : List (Int × Int)) (k : Nat) (m : MemS) (ck : Nat) (es : ThMap) : Cfg := ⟨.none, lp Tryd.f7 1, [(2, .ptr 2 0 0), (5, .ptr 3 0 0), (7, .map 4), (16, .slice 5 0 L.length), (150, .slice 5 0 L.length), (151, .int .i64 L.length), (152, .int .i64 k)],
  hp [.tab false (.int .i64) c.cl, .tab false ActK l, cfgC c, memC 6 m, .map (.int .i64) IvK ck es, .tab true IvK L, memT m]⟩
set_option maxHeartbeats 2000000 in
theorem do_last (c : Cnf) (l : List ActT) (L : List (Int × Int)) (hL : L.length ≤ 100000) (m : MemS) (hF : m.faults = 0) (ck : Nat) (es : ThMap) (hle : L.length = es.length) : Goods (gDo c l) (doS2 c l L L.length m ck es) := by
  have fm := mem_faults m
  rw [hF] at fm
  refine Goods.fin 2000 [.b false, .s 194 (some true) true true, .k 197 (.of fm)] mixed Tryd.func7 ?_
  show Yes _
  repeat' apply And.intro
  (all_goals first | rfl | assumption | trivial | omega | (simp [-List.getD_eq_getElem?_getD] <;> omega) | (simp (disch := omega) only [w64, wu64] <;> omega) | (simp (disch := omega) [-List.getD_eq_getElem?_getD, List.getD_cons_zero, List.getD_cons_succ, kCast_self, dfl_pair, dfl_int, w64, wu64] <;> omega) | (rw [Bool.eq_iff_iff]; simp (disch := omega) [-List.getD_eq_getElem?_getD, List.getD_cons_zero, List.getD_cons_succ, kCast_self, dfl_pair, dfl_int, w64, wu64] <;> omega) | (simp_all [-List.getD_eq_getElem?_getD] <;> omega))
set_option maxHeartbeats 2000000 in
theorem do_all0 (c : Cnf) (l : List ActT) (L : List (Int × Int)) (hL : L.length ≤ 100000) (m : MemS) (ck : Nat) (es : ThMap) (hk : 0 < L.length) (a z : Int) (x : ThT) (hy : L.getD 0 (0, 0) = (a, z)) (e1 : (mgT a es).getD (0, 0) = x) (e2 : mhas (kk := .int .i64) (vk := IvK) a es = true) (sz : Tri En 11 [cnfA 0 c, thA x] [.tab false (.int .i64) c.cl] (.int .i64 z) [.tab false (.int .i64) c.cl])
    (ih : Goods (gDo c l) (doS2 c l L 1 m ck es)) : Goods (gDo c l) (doS2 c l L 0 m ck es) := by
  subst e1
  refine Goods.to 2000 [.b true, .s 164 (some true) true true, .k 171 (.of sz), .s 172 (some false) true true, .s 176 (some false) true true, .l, .stop] mixed (ih) (by kernel_rfl) ?_
  show Yes _
  repeat' apply And.intro
  (all_goals first | rfl | assumption | trivial | omega | (simp [-List.getD_eq_getElem?_getD, hy, e2] <;> omega) | (simp (disch := omega) only [w64, wu64] <;> omega) | (simp (disch := omega) [-List.getD_eq_getElem?_getD, List.getD_cons_zero, List.getD_cons_succ, kCast_self, dfl_pair, dfl_int, w64, wu64, hy, e2] <;> omega) | (rw [Bool.eq_iff_iff]; simp (disch := omega) [-List.getD_eq_getElem?_getD, List.getD_cons_zero, List.getD_cons_succ, kCast_self, dfl_pair, dfl_int, w64, wu64, hy, e2] <;> omega) | (simp_all [-List.getD_eq_getElem?_getD] <;> omega))
set_option maxHeartbeats 2000000 in
theorem do_allS (c : Cnf) (l : List ActT) (L : List (Int × Int)) (hL : L.length ≤ 100000) (m : MemS) (ck : Nat) (es : ThMap) (k : Nat) (hk : k + 1 < L.length) (hlt : (L.getD k (0, 0)).1 < (L.getD (k + 1) (0, 0)).1) (a z : Int) (x : ThT) (hy : L.getD (k + 1) (0, 0) = (a, z)) (e1 : (mgT a es).getD (0, 0) = x) (e2 : mhas (kk := .int .i64) (vk := IvK) a es = true) (sz : Tri En 11 [cnfA 0 c, thA x] [.tab false (.int .i64) c.cl] (.int .i64 z) [.tab false (.int .i64) c.cl])
    (ih : Goods (gDo c l) (doS2 c l L (k + 1 + 1) m ck es)) : Goods (gDo c l) (doS2 c l L (k + 1) m ck es) := by
  subst e1
  obtain ⟨b, hb⟩ : ∃ b : Int × Int, L.getD k (0, 0) = b := ⟨_, rfl⟩
  rw [hb, hy] at hlt
  refine Goods.to 2000 [.b true, .s 164 (some true) true true, .k 171 (.of sz), .s 172 (some false) true true, .s 176 (some true) true true, .s 186 (some false) true true, .l, .stop] mixed (ih) (by kernel_rfl) ?_
  show Yes _
  repeat' apply And.intro
  (all_goals first | rfl | assumption | trivial | omega | (simp [-List.getD_eq_getElem?_getD, hy, e2, hb] <;> omega) | (simp (disch := omega) only [w64, wu64] <;> omega) | (simp (disch := omega) [-List.getD_eq_getElem?_getD, List.getD_cons_zero, List.getD_cons_succ, kCast_self, dfl_pair, dfl_int, w64, wu64, hy, e2, hb] <;> omega) | (rw [Bool.eq_iff_iff]; simp (disch := omega) [-List.getD_eq_getElem?_getD, List.getD_cons_zero, List.getD_cons_succ, kCast_self, dfl_pair, dfl_int, w64, wu64, hy, e2, hb] <;> omega) | (simp_all [-List.getD_eq_getElem?_getD] <;> omega))
end Go.Proofs.YtokblanedeiegaaDoor.E
