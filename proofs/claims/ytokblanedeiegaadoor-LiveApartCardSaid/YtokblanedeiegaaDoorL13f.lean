/- LiveApart: the law's contract: the script's steps at the other table. -/
import Derived.Test.YtokblanedeiegaaDoorL13e
namespace Go.Proofs.YtokblanedeiegaaDoor.E
open Go
set_option maxRecDepth 100000

set_option maxHeartbeats 2000000 in
theorem ap0_b (c : Cnf) (h : c.Ok) (l : List ActT) (hl : l.length ≤ 100) (sd : List Bool) (hsd : sd.length ≤ 9223372036854775807) (G : Nat) (m m1 m2 n : MemS) (k : Nat) (hk : k < l.length) (at_ p q : Int) (hy : l.getD k (dfl ActK) = (0, at_, p, q)) (z : Int) (hz : z ≠ 0) (x : ThT) (v v2 : Bool)
    (sz : Tri En 11 [cnfA 0 c, thA (p, q)] [.tab false (.int .i64) c.cl] (.int .i64 z) [.tab false (.int .i64) c.cl]) (lk : TLook c G at_ m m1 x v) (mk : TMark c G at_ (p, q) m1 m2 v2) (h1 : k < sd.length) (h2 : sd.getD k (dfl .bool) = true)
    (ih : Goods (gAp c l sd) (apSt c l sd G (k + 1) m2 n)) : Goods (gAp c l sd) (apSt c l sd G k m n) := by
  refine Goods.to 2000 [.b true, .s 55 (some true) true true, .k 60 (.of sz), .b false, .s 67 (some true) true true, .b true, .k 78 (.of lk), .b true, .k 88 (.of mk), .l, .stop] mixed (ih) (by kernel_rfl) ?_
  show Yes _
  repeat' apply And.intro
  (all_goals first | rfl | assumption | trivial | omega | (simp [-List.getD_eq_getElem?_getD, hy, h2] <;> omega) | (simp (disch := omega) only [w64, wu64] <;> omega) | (simp (disch := omega) [-List.getD_eq_getElem?_getD, List.getD_cons_zero, List.getD_cons_succ, kCast_self, dfl_pair, dfl_int, w64, wu64, hy, h2] <;> omega) | (rw [Bool.eq_iff_iff]; simp (disch := omega) [-List.getD_eq_getElem?_getD, List.getD_cons_zero, List.getD_cons_succ, kCast_self, dfl_pair, dfl_int, w64, wu64, hy, h2] <;> omega) | (simp_all [-List.getD_eq_getElem?_getD] <;> omega))
set_option maxHeartbeats 2000000 in
theorem ap1_b (c : Cnf) (l : List ActT) (hl : l.length ≤ 100) (sd : List Bool) (hsd : sd.length ≤ 9223372036854775807) (G : Nat) (m m1 m2 n : MemS) (k : Nat) (hk : k < l.length) (at_ p q : Int) (hy : l.getD k (dfl ActK) = (1, at_, p, q)) (x x2 : ThT) (v v2 : Bool)
    (lk : TLook c G at_ m m1 x v) (mk : TTake c G at_ m1 m2 x2 v2) (h1 : k < sd.length) (h2 : sd.getD k (dfl .bool) = true)
    (ih : Goods (gAp c l sd) (apSt c l sd G (k + 1) m2 n)) : Goods (gAp c l sd) (apSt c l sd G k m n) := by
  refine Goods.to 2000 [.b true, .s 55 (some false) true true, .s 67 (some true) true true, .b true, .k 78 (.of lk), .b false, .b true, .k 94 (.of mk), .l, .stop] mixed (ih) (by kernel_rfl) ?_
  show Yes _
  repeat' apply And.intro
  (all_goals first | rfl | assumption | trivial | omega | (simp [-List.getD_eq_getElem?_getD, hy, h2] <;> omega) | (simp (disch := omega) only [w64, wu64] <;> omega) | (simp (disch := omega) [-List.getD_eq_getElem?_getD, List.getD_cons_zero, List.getD_cons_succ, kCast_self, dfl_pair, dfl_int, w64, wu64, hy, h2] <;> omega) | (rw [Bool.eq_iff_iff]; simp (disch := omega) [-List.getD_eq_getElem?_getD, List.getD_cons_zero, List.getD_cons_succ, kCast_self, dfl_pair, dfl_int, w64, wu64, hy, h2] <;> omega) | (simp_all [-List.getD_eq_getElem?_getD] <;> omega))
set_option maxHeartbeats 2000000 in
theorem ap2_b (c : Cnf) (l : List ActT) (hl : l.length ≤ 100) (sd : List Bool) (hsd : sd.length ≤ 9223372036854775807) (G : Nat) (m m1 n : MemS) (k : Nat) (hk : k < l.length) (kd at_ p q : Int) (hy : l.getD k (dfl ActK) = (kd, at_, p, q)) (k0 : kd ≠ 0) (k1 : kd ≠ 1) (x : ThT) (v : Bool)
    (lk : TLook c G at_ m m1 x v) (h1 : k < sd.length) (h2 : sd.getD k (dfl .bool) = true)
    (ih : Goods (gAp c l sd) (apSt c l sd G (k + 1) m1 n)) : Goods (gAp c l sd) (apSt c l sd G k m n) := by
  refine Goods.to 2000 [.b true, .s 55 (some false) true true, .s 67 (some true) true true, .b true, .k 78 (.of lk), .b false, .b false, .l, .stop] mixed (ih) (by kernel_rfl) ?_
  show Yes _
  repeat' apply And.intro
  (all_goals first | rfl | assumption | trivial | omega | (simp [-List.getD_eq_getElem?_getD, hy, h2, k0, k1] <;> omega) | (simp (disch := omega) only [w64, wu64] <;> omega) | (simp (disch := omega) [-List.getD_eq_getElem?_getD, List.getD_cons_zero, List.getD_cons_succ, kCast_self, dfl_pair, dfl_int, w64, wu64, hy, h2, k0, k1] <;> omega) | (rw [Bool.eq_iff_iff]; simp (disch := omega) [-List.getD_eq_getElem?_getD, List.getD_cons_zero, List.getD_cons_succ, kCast_self, dfl_pair, dfl_int, w64, wu64, hy, h2, k0, k1] <;> omega) | (simp_all [-List.getD_eq_getElem?_getD] <;> omega))
set_option maxHeartbeats 2000000 in
theorem ap_skip (c : Cnf) (l : List ActT) (hl : l.length ≤ 100) (sd : List Bool) (G : Nat) (m n : MemS) (k : Nat) (hk : k < l.length) (at_ p q : Int) (hy : l.getD k (dfl ActK) = (0, at_, p, q))
    (sz : Tri En 11 [cnfA 0 c, thA (p, q)] [.tab false (.int .i64) c.cl] (.int .i64 0) [.tab false (.int .i64) c.cl])
    (ih : Goods (gAp c l sd) (apSt c l sd G (k + 1) m n)) : Goods (gAp c l sd) (apSt c l sd G k m n) := by
  refine Goods.to 2000 [.b true, .s 55 (some true) true true, .k 60 (.of sz), .b true, .l, .stop] mixed (ih) (by kernel_rfl) ?_
  show Yes _
  repeat' apply And.intro
  (all_goals first | rfl | assumption | trivial | omega | (simp [-List.getD_eq_getElem?_getD, hy] <;> omega) | (simp (disch := omega) only [w64, wu64] <;> omega) | (simp (disch := omega) [-List.getD_eq_getElem?_getD, List.getD_cons_zero, List.getD_cons_succ, kCast_self, dfl_pair, dfl_int, w64, wu64, hy] <;> omega) | (rw [Bool.eq_iff_iff]; simp (disch := omega) [-List.getD_eq_getElem?_getD, List.getD_cons_zero, List.getD_cons_succ, kCast_self, dfl_pair, dfl_int, w64, wu64, hy] <;> omega) | (simp_all [-List.getD_eq_getElem?_getD] <;> omega))
theorem ap_cmp (c : Cnf) (l : List ActT) (sd : List Bool) (L : List (Int × Int)) (hL : L.length ≤ 100000) : ∀ (j k : Nat), k + j = L.length → Goods (gAp c l sd) ⟨.none, lp Tryd.f6 1, [(15, .slice 3 0 L.length), (16, .slice 4 0 L.length), (137, .int .i64 L.length), (138, .int .i64 k)], hp [.tab false (.int .i64) c.cl, .tab false ActK l, .tab false .bool sd, .tab true IvK L, .tab true IvK L]⟩
  | 0, k, hk => by
    refine Goods.fin 2000 [.b false] mixed Tryd.func6 ?_
    show Yes _
    repeat' apply And.intro
    (all_goals first | rfl | assumption | trivial | omega | (simp [-List.getD_eq_getElem?_getD] <;> omega) | (simp (disch := omega) only [w64, wu64] <;> omega) | (simp (disch := omega) [-List.getD_eq_getElem?_getD, List.getD_cons_zero, List.getD_cons_succ, kCast_self, dfl_pair, dfl_int, w64, wu64] <;> omega) | (rw [Bool.eq_iff_iff]; simp (disch := omega) [-List.getD_eq_getElem?_getD, List.getD_cons_zero, List.getD_cons_succ, kCast_self, dfl_pair, dfl_int, w64, wu64] <;> omega) | (simp_all [-List.getD_eq_getElem?_getD] <;> omega))
  | j + 1, k, hk => by
    have ih := ap_cmp c l sd L hL j (k + 1) (by omega)
    refine Goods.to 2000 [.b true, .b false, .l, .stop] mixed (ih) (by kernel_rfl) ?_
    show Yes _
    repeat' apply And.intro
    (all_goals first | rfl | assumption | trivial | omega | (simp [-List.getD_eq_getElem?_getD] <;> omega) | (simp (disch := omega) only [w64, wu64] <;> omega) | (simp (disch := omega) [-List.getD_eq_getElem?_getD, List.getD_cons_zero, List.getD_cons_succ, kCast_self, dfl_pair, dfl_int, w64, wu64] <;> omega) | (rw [Bool.eq_iff_iff]; simp (disch := omega) [-List.getD_eq_getElem?_getD, List.getD_cons_zero, List.getD_cons_succ, kCast_self, dfl_pair, dfl_int, w64, wu64] <;> omega) | (simp_all [-List.getD_eq_getElem?_getD] <;> omega))
set_option maxHeartbeats 2000000 in
theorem ap_end (c : Cnf) (h : c.Ok) (l : List ActT) (sd : List Bool) (G : Nat) (hG : (G : Int) = 64 * c.s) (f f2 : Nat → Nat) (m n : MemS) (hI : ApI G f f2 m n) : Goods (gAp c l sd) (apSt c l sd G l.length m n) := by
  have s1 := h.s1
  have a1 := all_tri c h 0 (by omega) m f G hG fun g hg => ⟨hI.ga hg, hI.h1 g⟩
  have a2 := all_tri c h 0 (by omega) n f G hG fun g hg => ⟨hI.gn hg, hI.h1 g⟩
  have hL := allL_len c f G
  have hF := mem_faults m
  rw [hI.hF] at hF
  have ih := ap_cmp c l sd (allL c f G) (by omega) (allL c f G).length 0 (by omega)
  generalize allL c f G = L at *
  refine Goods.to 2000 [.b false, .k 123 (.of a1), .k 125 (.of a2), .s 130 (some false) true true, .k 133 (.of hF), .b false, .l, .stop] mixed (ih) (by kernel_rfl) ?_
  show Yes _
  repeat' apply And.intro
  (all_goals first | rfl | assumption | trivial | omega | (simp [-List.getD_eq_getElem?_getD] <;> omega) | (simp (disch := omega) only [w64, wu64] <;> omega) | (simp (disch := omega) [-List.getD_eq_getElem?_getD, List.getD_cons_zero, List.getD_cons_succ, kCast_self, dfl_pair, dfl_int, w64, wu64] <;> omega) | (rw [Bool.eq_iff_iff]; simp (disch := omega) [-List.getD_eq_getElem?_getD, List.getD_cons_zero, List.getD_cons_succ, kCast_self, dfl_pair, dfl_int, w64, wu64] <;> omega) | (simp_all [-List.getD_eq_getElem?_getD] <;> omega))
end Go.Proofs.YtokblanedeiegaaDoor.E
