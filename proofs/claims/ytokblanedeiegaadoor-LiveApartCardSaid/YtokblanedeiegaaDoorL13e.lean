/- LiveApart: the law's contract: the script's steps. -/
import Derived.Test.YtokblanedeiegaaDoorL13d
namespace Go.Proofs.YtokblanedeiegaaDoor.E
open Go
set_option maxRecDepth 100000

noncomputable abbrev gAp (c : Cnf) (l : List ActT) (sd : List Bool) : Frm := ⟨En, 6, Tryd.f6.ntmps, [.tab false (.int .i64) c.cl, .tab false ActK l, .tab false .bool sd], .bl true, gones 3⟩
noncomputable abbrev apSt (c : Cnf) (l : List ActT) (sd : List Bool) (G k : Nat) (m n : MemS) : Cfg := ⟨.none, lp Tryd.f6 0, [(2, .slice 2 0 sd.length), (3, .ptr 3 0 0), (7, .ptr 4 0 0), (9, .ptr 5 0 0), (10, .ptr 6 0 0), (11, .ptr 7 0 0), (46, .slice 1 0 l.length), (47, .int .i64 l.length), (48, .int .i64 k)],
  hp [.tab false (.int .i64) c.cl, .tab false ActK l, .tab false .bool sd, cfgC c, memC 8 m, tableC 4 9 (0 : Nat) c, tableC 4 10 G c, tableC 11 12 (0 : Nat) c, memT m, clsT c, clsT c, memC 13 n, clsT c, memT n]⟩
set_option maxHeartbeats 2000000 in
theorem ap0_x (c : Cnf) (h : c.Ok) (l : List ActT) (hl : l.length ≤ 100) (sd : List Bool) (hsd : sd.length ≤ 9223372036854775807) (G : Nat) (m m1 m2 n n2 : MemS) (k : Nat) (hk : k < l.length) (at_ p q : Int) (hy : l.getD k (dfl ActK) = (0, at_, p, q)) (z : Int) (hz : z ≠ 0) (x : ThT) (v v2 : Bool)
    (sz : Tri En 11 [cnfA 0 c, thA (p, q)] [.tab false (.int .i64) c.cl] (.int .i64 z) [.tab false (.int .i64) c.cl]) (lk : TLook c 0 at_ m m1 x v) (mk : TMark c 0 at_ (p, q) m1 m2 v2) (mn : TMark c 0 at_ (p, q) n n2 v2) (h1 : k < sd.length) (h2 : sd.getD k (dfl .bool) = false)
    (ih : Goods (gAp c l sd) (apSt c l sd G (k + 1) m2 n2)) : Goods (gAp c l sd) (apSt c l sd G k m n) := by
  refine Goods.to 2000 [.b true, .s 55 (some true) true true, .k 60 (.of sz), .b false, .s 67 (some true) true true, .b false, .k 78 (.of lk), .b true, .k 88 (.of mk), .b true, .k 108 (.of mn), .l, .stop] mixed (ih) (by kernel_rfl) ?_
  show Yes _
  repeat' apply And.intro
  (all_goals first | rfl | assumption | trivial | omega | (simp [-List.getD_eq_getElem?_getD, hy, h2] <;> omega) | (simp (disch := omega) only [w64, wu64] <;> omega) | (simp (disch := omega) [-List.getD_eq_getElem?_getD, List.getD_cons_zero, List.getD_cons_succ, kCast_self, dfl_pair, dfl_int, w64, wu64, hy, h2] <;> omega) | (rw [Bool.eq_iff_iff]; simp (disch := omega) [-List.getD_eq_getElem?_getD, List.getD_cons_zero, List.getD_cons_succ, kCast_self, dfl_pair, dfl_int, w64, wu64, hy, h2] <;> omega) | (simp_all [-List.getD_eq_getElem?_getD] <;> omega))
set_option maxHeartbeats 2000000 in
theorem ap0_y (c : Cnf) (h : c.Ok) (l : List ActT) (hl : l.length ≤ 100) (sd : List Bool) (hsd : sd.length ≤ 9223372036854775807) (G : Nat) (m m1 m2 n n2 : MemS) (k : Nat) (hk : k < l.length) (at_ p q : Int) (hy : l.getD k (dfl ActK) = (0, at_, p, q)) (z : Int) (hz : z ≠ 0) (x : ThT) (v v2 : Bool)
    (sz : Tri En 11 [cnfA 0 c, thA (p, q)] [.tab false (.int .i64) c.cl] (.int .i64 z) [.tab false (.int .i64) c.cl]) (lk : TLook c 0 at_ m m1 x v) (mk : TMark c 0 at_ (p, q) m1 m2 v2) (mn : TMark c 0 at_ (p, q) n n2 v2) (h1 : ¬ k < sd.length) (h2 : True)
    (ih : Goods (gAp c l sd) (apSt c l sd G (k + 1) m2 n2)) : Goods (gAp c l sd) (apSt c l sd G k m n) := by
  refine Goods.to 2000 [.b true, .s 55 (some true) true true, .k 60 (.of sz), .b false, .s 67 (some false) true true, .k 78 (.of lk), .b true, .k 88 (.of mk), .b true, .k 108 (.of mn), .l, .stop] mixed (ih) (by kernel_rfl) ?_
  show Yes _
  repeat' apply And.intro
  (all_goals first | rfl | assumption | trivial | omega | (simp [-List.getD_eq_getElem?_getD, hy, h2] <;> omega) | (simp (disch := omega) only [w64, wu64] <;> omega) | (simp (disch := omega) [-List.getD_eq_getElem?_getD, List.getD_cons_zero, List.getD_cons_succ, kCast_self, dfl_pair, dfl_int, w64, wu64, hy, h2] <;> omega) | (rw [Bool.eq_iff_iff]; simp (disch := omega) [-List.getD_eq_getElem?_getD, List.getD_cons_zero, List.getD_cons_succ, kCast_self, dfl_pair, dfl_int, w64, wu64, hy, h2] <;> omega) | (simp_all [-List.getD_eq_getElem?_getD] <;> omega))
set_option maxHeartbeats 2000000 in
theorem ap1_x (c : Cnf) (l : List ActT) (hl : l.length ≤ 100) (sd : List Bool) (hsd : sd.length ≤ 9223372036854775807) (G : Nat) (m m1 m2 n n2 : MemS) (k : Nat) (hk : k < l.length) (at_ p q : Int) (hy : l.getD k (dfl ActK) = (1, at_, p, q)) (x x2 : ThT) (v v2 : Bool)
    (lk : TLook c 0 at_ m m1 x v) (mk : TTake c 0 at_ m1 m2 x2 v2) (mn : TTake c 0 at_ n n2 x2 v2) (h1 : k < sd.length) (h2 : sd.getD k (dfl .bool) = false)
    (ih : Goods (gAp c l sd) (apSt c l sd G (k + 1) m2 n2)) : Goods (gAp c l sd) (apSt c l sd G k m n) := by
  refine Goods.to 2000 [.b true, .s 55 (some false) true true, .s 67 (some true) true true, .b false, .k 78 (.of lk), .b false, .b true, .k 94 (.of mk), .b false, .b true, .k 120 (.of mn), .l, .stop] mixed (ih) (by kernel_rfl) ?_
  show Yes _
  repeat' apply And.intro
  (all_goals first | rfl | assumption | trivial | omega | (simp [-List.getD_eq_getElem?_getD, hy, h2] <;> omega) | (simp (disch := omega) only [w64, wu64] <;> omega) | (simp (disch := omega) [-List.getD_eq_getElem?_getD, List.getD_cons_zero, List.getD_cons_succ, kCast_self, dfl_pair, dfl_int, w64, wu64, hy, h2] <;> omega) | (rw [Bool.eq_iff_iff]; simp (disch := omega) [-List.getD_eq_getElem?_getD, List.getD_cons_zero, List.getD_cons_succ, kCast_self, dfl_pair, dfl_int, w64, wu64, hy, h2] <;> omega) | (simp_all [-List.getD_eq_getElem?_getD] <;> omega))
set_option maxHeartbeats 2000000 in
theorem ap2_x (c : Cnf) (l : List ActT) (hl : l.length ≤ 100) (sd : List Bool) (hsd : sd.length ≤ 9223372036854775807) (G : Nat) (m m1 n : MemS) (k : Nat) (hk : k < l.length) (kd at_ p q : Int) (hy : l.getD k (dfl ActK) = (kd, at_, p, q)) (k0 : kd ≠ 0) (k1 : kd ≠ 1) (x : ThT) (v : Bool)
    (lk : TLook c 0 at_ m m1 x v) (h1 : k < sd.length) (h2 : sd.getD k (dfl .bool) = false)
    (ih : Goods (gAp c l sd) (apSt c l sd G (k + 1) m1 n)) : Goods (gAp c l sd) (apSt c l sd G k m n) := by
  refine Goods.to 2000 [.b true, .s 55 (some false) true true, .s 67 (some true) true true, .b false, .k 78 (.of lk), .b false, .b false, .b false, .b false, .l, .stop] mixed (ih) (by kernel_rfl) ?_
  show Yes _
  repeat' apply And.intro
  (all_goals first | rfl | assumption | trivial | omega | (simp [-List.getD_eq_getElem?_getD, hy, h2, k0, k1] <;> omega) | (simp (disch := omega) only [w64, wu64] <;> omega) | (simp (disch := omega) [-List.getD_eq_getElem?_getD, List.getD_cons_zero, List.getD_cons_succ, kCast_self, dfl_pair, dfl_int, w64, wu64, hy, h2, k0, k1] <;> omega) | (rw [Bool.eq_iff_iff]; simp (disch := omega) [-List.getD_eq_getElem?_getD, List.getD_cons_zero, List.getD_cons_succ, kCast_self, dfl_pair, dfl_int, w64, wu64, hy, h2, k0, k1] <;> omega) | (simp_all [-List.getD_eq_getElem?_getD] <;> omega))
set_option maxHeartbeats 2000000 in
theorem ap1_y (c : Cnf) (l : List ActT) (hl : l.length ≤ 100) (sd : List Bool) (hsd : sd.length ≤ 9223372036854775807) (G : Nat) (m m1 m2 n n2 : MemS) (k : Nat) (hk : k < l.length) (at_ p q : Int) (hy : l.getD k (dfl ActK) = (1, at_, p, q)) (x x2 : ThT) (v v2 : Bool)
    (lk : TLook c 0 at_ m m1 x v) (mk : TTake c 0 at_ m1 m2 x2 v2) (mn : TTake c 0 at_ n n2 x2 v2) (h1 : ¬ k < sd.length) (h2 : True)
    (ih : Goods (gAp c l sd) (apSt c l sd G (k + 1) m2 n2)) : Goods (gAp c l sd) (apSt c l sd G k m n) := by
  refine Goods.to 2000 [.b true, .s 55 (some false) true true, .s 67 (some false) true true, .k 78 (.of lk), .b false, .b true, .k 94 (.of mk), .b false, .b true, .k 120 (.of mn), .l, .stop] mixed (ih) (by kernel_rfl) ?_
  show Yes _
  repeat' apply And.intro
  (all_goals first | rfl | assumption | trivial | omega | (simp [-List.getD_eq_getElem?_getD, hy, h2] <;> omega) | (simp (disch := omega) only [w64, wu64] <;> omega) | (simp (disch := omega) [-List.getD_eq_getElem?_getD, List.getD_cons_zero, List.getD_cons_succ, kCast_self, dfl_pair, dfl_int, w64, wu64, hy, h2] <;> omega) | (rw [Bool.eq_iff_iff]; simp (disch := omega) [-List.getD_eq_getElem?_getD, List.getD_cons_zero, List.getD_cons_succ, kCast_self, dfl_pair, dfl_int, w64, wu64, hy, h2] <;> omega) | (simp_all [-List.getD_eq_getElem?_getD] <;> omega))
set_option maxHeartbeats 2000000 in
theorem ap2_y (c : Cnf) (l : List ActT) (hl : l.length ≤ 100) (sd : List Bool) (hsd : sd.length ≤ 9223372036854775807) (G : Nat) (m m1 n : MemS) (k : Nat) (hk : k < l.length) (kd at_ p q : Int) (hy : l.getD k (dfl ActK) = (kd, at_, p, q)) (k0 : kd ≠ 0) (k1 : kd ≠ 1) (x : ThT) (v : Bool)
    (lk : TLook c 0 at_ m m1 x v) (h1 : ¬ k < sd.length) (h2 : True)
    (ih : Goods (gAp c l sd) (apSt c l sd G (k + 1) m1 n)) : Goods (gAp c l sd) (apSt c l sd G k m n) := by
  refine Goods.to 2000 [.b true, .s 55 (some false) true true, .s 67 (some false) true true, .k 78 (.of lk), .b false, .b false, .b false, .b false, .l, .stop] mixed (ih) (by kernel_rfl) ?_
  show Yes _
  repeat' apply And.intro
  (all_goals first | rfl | assumption | trivial | omega | (simp [-List.getD_eq_getElem?_getD, hy, h2, k0, k1] <;> omega) | (simp (disch := omega) only [w64, wu64] <;> omega) | (simp (disch := omega) [-List.getD_eq_getElem?_getD, List.getD_cons_zero, List.getD_cons_succ, kCast_self, dfl_pair, dfl_int, w64, wu64, hy, h2, k0, k1] <;> omega) | (rw [Bool.eq_iff_iff]; simp (disch := omega) [-List.getD_eq_getElem?_getD, List.getD_cons_zero, List.getD_cons_succ, kCast_self, dfl_pair, dfl_int, w64, wu64, hy, h2, k0, k1] <;> omega) | (simp_all [-List.getD_eq_getElem?_getD] <;> omega))
end Go.Proofs.YtokblanedeiegaaDoor.E
