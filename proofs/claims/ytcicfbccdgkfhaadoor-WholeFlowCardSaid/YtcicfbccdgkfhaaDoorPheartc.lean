/- Package heart: refill. -/
import Derived.Test.YtcicfbccdgkfhaaDoorPheartb
namespace Go.Proofs.YtcicfbccdgkfhaaDoor.E
set_option linter.unusedSimpArgs false
set_option linter.unusedVariables false
open Go
set_option maxRecDepth 100000

def boxC (c : Cnf) : AObj := .cells [.int .i64 c.w, .int .i64 c.s, .int .i64 c.b, .int .i64 c.t, .slice 0 0 c.cl.length]
noncomputable abbrev gRf (own : Bool) (c : Cnf) (n : Nat) (f f' : SupF) (v : AV) : Frm := ⟨En, 70, Tryd.f70.ntmps, [.tab own (.int .i64) c.cl, .tab true (.int .u64) (hW n f)], v, [.tab own (.int .i64) c.cl, .tab true (.int .u64) (hW n f')]⟩
noncomputable abbrev rfSt (own : Bool) (c : Cnf) (n : Nat) (f : SupF) (cl : Nat) (k : Nat) (fr : Int) : Cfg := ⟨.none, lp Tryd.f70 0, [(1, .slice 1 0 (2 * n)), (2, .int .i64 cl), (3, .ptr 2 0 0), (6, .ptr 3 0 0), (7, .int .i64 fr), (20, .int .i64 n), (21, .int .i64 k)], hp [.tab own (.int .i64) c.cl, .tab true (.int .u64) (hW n f), boxC c, .cells [.int .u64 0, .int .u64 0]]⟩
section
theorem rf_a (own : Bool) (c : Cnf) (n : Nat) (hn : n ≤ 64) (f f' : SupF) (v : AV) (cl k : Nat) (hk : k < n) (fr : Int) (hat : TAt true n f k supA0 true) (hfr : fr < 0) (ih : Goods (gRf own c n f f' v) (rfSt own c n f cl (k + 1) k)) : Goods (gRf own c n f f' v) (rfSt own c n f cl k fr) := by
  have hl := hW_len n f
  unfold TAt at hat
  refine Goods.to 2000 [.b true, .c (.of hat), .s 33 (some false) true true, .s 50 (some true) true true, .l, .stop] mixed (ih) (by kernel_rfl) ?_
  show Yes _
  repeat' apply And.intro
  (all_goals first | rfl | assumption | trivial | omega | (simp [-List.getD_eq_getElem?_getD] <;> omega) | (simp (disch := omega) only [w64, wu64] <;> omega) | (simp (disch := omega) [-List.getD_eq_getElem?_getD, List.getD_cons_zero, List.getD_cons_succ, kCast_self, dfl_pair, dfl_int, w64, wu64] <;> omega) | (rw [Bool.eq_iff_iff]; simp (disch := omega) [-List.getD_eq_getElem?_getD, List.getD_cons_zero, List.getD_cons_succ, kCast_self, dfl_pair, dfl_int, w64, wu64] <;> omega) | (simp_all [-List.getD_eq_getElem?_getD] <;> omega))
theorem rf_b (own : Bool) (c : Cnf) (n : Nat) (hn : n ≤ 64) (f f' : SupF) (v : AV) (cl k : Nat) (hk : k < n) (fr : Int) (hat : TAt true n f k supA0 true) (hfr : ¬ fr < 0) (ih : Goods (gRf own c n f f' v) (rfSt own c n f cl (k + 1) fr)) : Goods (gRf own c n f f' v) (rfSt own c n f cl k fr) := by
  have hl := hW_len n f
  unfold TAt at hat
  refine Goods.to 2000 [.b true, .c (.of hat), .s 33 (some false) true true, .s 50 (some false) true true, .l, .stop] mixed (ih) (by kernel_rfl) ?_
  show Yes _
  repeat' apply And.intro
  (all_goals first | rfl | assumption | trivial | omega | (simp [-List.getD_eq_getElem?_getD] <;> omega) | (simp (disch := omega) only [w64, wu64] <;> omega) | (simp (disch := omega) [-List.getD_eq_getElem?_getD, List.getD_cons_zero, List.getD_cons_succ, kCast_self, dfl_pair, dfl_int, w64, wu64] <;> omega) | (rw [Bool.eq_iff_iff]; simp (disch := omega) [-List.getD_eq_getElem?_getD, List.getD_cons_zero, List.getD_cons_succ, kCast_self, dfl_pair, dfl_int, w64, wu64] <;> omega) | (simp_all [-List.getD_eq_getElem?_getD] <;> omega))
theorem rf_c (own : Bool) (c : Cnf) (n : Nat) (hn : n ≤ 64) (f f' : SupF) (v : AV) (cl k : Nat) (hk : k < n) (fr : Int) (hat : TAt true n f k supA3 true)  (ih : Goods (gRf own c n f f' v) (rfSt own c n f cl (k + 1) fr)) : Goods (gRf own c n f f' v) (rfSt own c n f cl k fr) := by
  have hl := hW_len n f
  unfold TAt at hat
  refine Goods.to 2000 [.b true, .c (.of hat), .s 33 (some false) true true, .l, .stop] mixed (ih) (by kernel_rfl) ?_
  show Yes _
  repeat' apply And.intro
  (all_goals first | rfl | assumption | trivial | omega | (simp [-List.getD_eq_getElem?_getD] <;> omega) | (simp (disch := omega) only [w64, wu64] <;> omega) | (simp (disch := omega) [-List.getD_eq_getElem?_getD, List.getD_cons_zero, List.getD_cons_succ, kCast_self, dfl_pair, dfl_int, w64, wu64] <;> omega) | (rw [Bool.eq_iff_iff]; simp (disch := omega) [-List.getD_eq_getElem?_getD, List.getD_cons_zero, List.getD_cons_succ, kCast_self, dfl_pair, dfl_int, w64, wu64] <;> omega) | (simp_all [-List.getD_eq_getElem?_getD] <;> omega))
theorem rf_d (own : Bool) (c : Cnf) (n : Nat) (hn : n ≤ 64) (f f' : SupF) (v : AV) (cl k a : Nat) (hk : k < n) (fr : Int) (hat : TAt true n f k (supA2 a) true) (ih : Goods (gRf own c n f f' v) (rfSt own c n f cl (k + 1) fr)) : Goods (gRf own c n f f' v) (rfSt own c n f cl k fr) := by
  have hl := hW_len n f
  unfold TAt at hat
  refine Goods.to 2000 [.b true, .c (.of hat), .s 33 (some false) true true, .l, .stop] mixed (ih) (by kernel_rfl) ?_
  show Yes _
  repeat' apply And.intro
  (all_goals first | rfl | assumption | trivial | omega | (simp [-List.getD_eq_getElem?_getD] <;> omega) | (simp (disch := omega) only [w64, wu64] <;> omega) | (simp (disch := omega) [-List.getD_eq_getElem?_getD, List.getD_cons_zero, List.getD_cons_succ, kCast_self, dfl_pair, dfl_int, w64, wu64] <;> omega) | (rw [Bool.eq_iff_iff]; simp (disch := omega) [-List.getD_eq_getElem?_getD, List.getD_cons_zero, List.getD_cons_succ, kCast_self, dfl_pair, dfl_int, w64, wu64] <;> omega) | (simp_all [-List.getD_eq_getElem?_getD] <;> omega))
theorem rf_e (own : Bool) (c : Cnf) (n : Nat) (hn : n ≤ 64) (f f' : SupF) (v : AV) (cl k a m : Nat) (hk : k < n) (fr : Int) (hat : TAt true n f k (supA1 a m) true) (hne : a ≠ cl) (ih : Goods (gRf own c n f f' v) (rfSt own c n f cl (k + 1) fr)) : Goods (gRf own c n f f' v) (rfSt own c n f cl k fr) := by
  have hl := hW_len n f
  unfold TAt at hat
  refine Goods.to 2000 [.b true, .c (.of hat), .s 33 (some false) true true, .l, .stop] mixed (ih) (by kernel_rfl) ?_
  show Yes _
  repeat' apply And.intro
  (all_goals first | rfl | assumption | trivial | omega | (simp [-List.getD_eq_getElem?_getD] <;> omega) | (simp (disch := omega) only [w64, wu64] <;> omega) | (simp (disch := omega) [-List.getD_eq_getElem?_getD, List.getD_cons_zero, List.getD_cons_succ, kCast_self, dfl_pair, dfl_int, w64, wu64] <;> omega) | (rw [Bool.eq_iff_iff]; simp (disch := omega) [-List.getD_eq_getElem?_getD, List.getD_cons_zero, List.getD_cons_succ, kCast_self, dfl_pair, dfl_int, w64, wu64] <;> omega) | (simp_all [-List.getD_eq_getElem?_getD] <;> omega))
theorem rf_f (own : Bool) (c : Cnf) (n : Nat) (hn : n ≤ 64) (f f' : SupF) (v : AV) (cl k : Nat) (hk : k < n) (fr : Int) (hat : TAt true n f k (supA1 cl 0) true) (ih : Goods (gRf own c n f f' v) (rfSt own c n f cl (k + 1) fr)) : Goods (gRf own c n f f' v) (rfSt own c n f cl k fr) := by
  have hl := hW_len n f
  unfold TAt at hat
  refine Goods.to 2000 [.b true, .c (.of hat), .s 33 (some true) true true, .s 37 (some false) true true, .l, .stop] mixed (ih) (by kernel_rfl) ?_
  show Yes _
  repeat' apply And.intro
  (all_goals first | rfl | assumption | trivial | omega | (simp [-List.getD_eq_getElem?_getD] <;> omega) | (simp (disch := omega) only [w64, wu64] <;> omega) | (simp (disch := omega) [-List.getD_eq_getElem?_getD, List.getD_cons_zero, List.getD_cons_succ, kCast_self, dfl_pair, dfl_int, w64, wu64] <;> omega) | (rw [Bool.eq_iff_iff]; simp (disch := omega) [-List.getD_eq_getElem?_getD, List.getD_cons_zero, List.getD_cons_succ, kCast_self, dfl_pair, dfl_int, w64, wu64] <;> omega) | (simp_all [-List.getD_eq_getElem?_getD] <;> omega))
theorem rf_g (own : Bool) (c : Cnf) (hc : c.Ok) (n : Nat) (hn : n ≤ 64) (f : SupF) (cl k m : Nat) (hk : k < n) (fr : Int) (hcl : cl < 256) (hm : m < 18446744073709551616) (hm0 : m ≠ 0) (hat : TAt true n f k (supA1 cl m) true) : Goods (gRf own c n f (updS f k (1, cl, m - leastN m c.b)) (opA (k + 1) (leastN m c.b))) (rfSt own c n f cl k fr) := by
  have hl := hW_len n f
  have hg := grant_tri own c hc n hn f k hk cl m hcl hm
  unfold TAt at hat
  generalize leastN m c.b = s at *
  generalize updS f k (1, cl, m - s) = g at *
  refine Goods.fin 2000 [.b true, .c (.of hat), .s 33 (some true) true true, .s 37 (some true) true true, .c (.of hg)] mixed Tryd.func70 ?_
  show Yes _
  repeat' apply And.intro
  (all_goals first | rfl | assumption | trivial | omega | (simp [-List.getD_eq_getElem?_getD] <;> omega) | (simp (disch := omega) only [w64, wu64] <;> omega) | (simp (disch := omega) [-List.getD_eq_getElem?_getD, List.getD_cons_zero, List.getD_cons_succ, kCast_self, dfl_pair, dfl_int, w64, wu64] <;> omega) | (rw [Bool.eq_iff_iff]; simp (disch := omega) [-List.getD_eq_getElem?_getD, List.getD_cons_zero, List.getD_cons_succ, kCast_self, dfl_pair, dfl_int, w64, wu64] <;> omega) | (simp_all [-List.getD_eq_getElem?_getD] <;> omega))
theorem rf_none (own : Bool) (c : Cnf) (n : Nat) (hn : n ≤ 64) (f : SupF) (cl : Nat) : Goods (gRf own c n f f (opA 0 0)) (rfSt own c n f cl n (-1)) := by
  have hl := hW_len n f
  refine Goods.fin 2000 [.b false, .b true] mixed Tryd.func70 ?_
  show Yes _
  repeat' apply And.intro
  (all_goals first | rfl | assumption | trivial | omega | (simp [-List.getD_eq_getElem?_getD] <;> omega) | (simp (disch := omega) only [w64, wu64] <;> omega) | (simp (disch := omega) [-List.getD_eq_getElem?_getD, List.getD_cons_zero, List.getD_cons_succ, kCast_self, dfl_pair, dfl_int, w64, wu64] <;> omega) | (rw [Bool.eq_iff_iff]; simp (disch := omega) [-List.getD_eq_getElem?_getD, List.getD_cons_zero, List.getD_cons_succ, kCast_self, dfl_pair, dfl_int, w64, wu64] <;> omega) | (simp_all [-List.getD_eq_getElem?_getD] <;> omega))
theorem rf_free (own : Bool) (c : Cnf) (hc : c.Ok) (n : Nat) (hn : n ≤ 64) (f : SupF) (cl k : Nat) (hk : k < n) (hcl : cl < 256) : Goods (gRf own c n f (updS f k (1, cl, allN c cl - leastN (allN c cl) c.b)) (opA (k + 1) (leastN (allN c cl) c.b))) (rfSt own c n f cl n k) := by
  have hl := hW_len n f
  have ha := all_of own c hc cl
  have ha : Tri En 92 [cnfA 0 c, .int .i64 cl] [.tab own (.int .i64) c.cl] (.int .u64 (allN c cl)) [.tab own (.int .i64) c.cl] := ha
  have hg := grant_tri own c hc n hn f k hk cl (allN c cl) hcl (allN_lt ..)
  generalize allN c cl = m at *
  generalize leastN m c.b = s at *
  generalize updS f k (1, cl, m - s) = g at *
  refine Goods.fin 2000 [.b false, .b false, .k 64 (.of ha), .k 65 (.of hg)] mixed Tryd.func70 ?_
  show Yes _
  repeat' apply And.intro
  (all_goals first | rfl | assumption | trivial | omega | (simp [-List.getD_eq_getElem?_getD] <;> omega) | (simp (disch := omega) only [w64, wu64] <;> omega) | (simp (disch := omega) [-List.getD_eq_getElem?_getD, List.getD_cons_zero, List.getD_cons_succ, kCast_self, dfl_pair, dfl_int, w64, wu64] <;> omega) | (rw [Bool.eq_iff_iff]; simp (disch := omega) [-List.getD_eq_getElem?_getD, List.getD_cons_zero, List.getD_cons_succ, kCast_self, dfl_pair, dfl_int, w64, wu64] <;> omega) | (simp_all [-List.getD_eq_getElem?_getD] <;> omega))
end
/-- What a refill comes to: which superblock, and what it has. -/
def refF (c : Cnf) (n : Nat) (f : SupF) (cl : Nat) : Option (Nat × Nat) := if 0 ≤ fcls f cl n then some ((fcls f cl n).toNat, (f (fcls f cl n).toNat).2.2) else if 0 ≤ ffree f n then some ((ffree f n).toNat, allN c cl) else none
def refS (c : Cnf) (f : SupF) (cl : Nat) : Option (Nat × Nat) → SupF
  | some (i, m) => updS f i (1, cl, m - leastN m c.b)
  | none => f
def refV (c : Cnf) : Option (Nat × Nat) → AV
  | some (i, m) => opA (i + 1) (leastN m c.b)
  | none => opA 0 0
theorem rf_0 (own : Bool) (c : Cnf) (hc : c.Ok) (n : Nat) (hn : n ≤ 64) (f : SupF) (hI : HInv c n f) (cl : Nat) (hcl : cl < c.cl.length) : ∀ (j k : Nat), k + j = n → fcls f cl k = -1 → Goods (gRf own c n f (refS c f cl (refF c n f cl)) (refV c (refF c n f cl))) (rfSt own c n f cl k (ffree f k))
  | 0, k, hk, h0 => by
    obtain rfl : k = n := by omega
    have l1 := hc.l1
    have e1 : refF c k f cl = if 0 ≤ ffree f k then some ((ffree f k).toNat, allN c cl) else none := by unfold refF; rw [h0, if_neg (by omega)]
    rcases ffree_spec f k with ⟨h, _⟩ | ⟨i, h, hi, _⟩
    · rw [e1, h, if_neg (by omega)]; exact rf_none own c k hn f cl
    · rw [e1, h, if_pos (by omega), Int.toNat_natCast]; exact rf_free own c hc k hn f cl i hi (by omega)
  | j + 1, k, hk, h0 => by
    have l1 := hc.l1
    have hkn : k < n := by omega
    have nx := rf_0 own c hc n hn f hI cl hcl j (k + 1) (by omega)
    have sk : ¬ ((f k).1 = 1 ∧ (f k).2.1 = cl ∧ (f k).2.2 ≠ 0) → fcls f cl (k + 1) = -1 := fun h => by simp only [fcls]; rw [h0, if_neg (by omega), if_neg h]
    have sf : (f k).1 ≠ 0 → ffree f (k + 1) = ffree f k := fun h => by
      simp only [ffree]
      by_cases h2 : 0 ≤ ffree f k
      · rw [if_pos h2]
      · rw [if_neg h2, if_neg h]
        rcases ffree_spec f k with ⟨h3, _⟩ | ⟨i, h3, _⟩ <;> omega
    rcases hI k hkn with e | ⟨a, m, e, ha, hs, hne, hm⟩ | ⟨a, e, h1, h2, h3⟩ | e
    · have hat := at_0 true n hn f k hkn 0 (by omega) e
      have nx := nx (sk (by rw [e]; simp))
      have e2 : ffree f (k + 1) = if 0 ≤ ffree f k then ffree f k else (k : Int) := by simp only [ffree]; rw [e]; rfl
      rw [e2] at nx
      by_cases h2 : 0 ≤ ffree f k
      · rw [if_pos h2] at nx
        exact rf_b own c n hn f _ _ cl k hkn _ hat (by omega) nx
      · rw [if_neg h2] at nx
        exact rf_a own c n hn f _ _ cl k hkn _ hat (by omega) nx
    · have hat := at_1 true n hn f k hkn a m (by omega) e
      by_cases h1 : a = cl
      · subst h1
        by_cases h2 : m = 0
        · subst h2
          have nx := nx (sk (by rw [e]; simp))
          rw [sf (by rw [e]; simp)] at nx
          exact rf_f own c n hn f _ _ a k hkn _ hat nx
        · have e1 : fcls f a (k + 1) = k := by simp only [fcls]; rw [h0, if_neg (by omega), if_pos (by rw [e]; exact ⟨rfl, rfl, h2⟩)]
          have e2 := fcls_up f a e1 j
          rw [show k + 1 + j = n by omega] at e2
          have e3 : refF c n f a = some (k, m) := by unfold refF; rw [e2, if_pos (by omega), Int.toNat_natCast, e]
          rw [e3]
          exact rf_g own c hc n hn f a k m hkn _ (by omega) hm h2 hat
      · have nx := nx (sk (by rw [e]; simp; intro h; exact absurd h h1))
        rw [sf (by rw [e]; simp)] at nx
        exact rf_e own c n hn f _ _ cl k a m hkn _ hat h1 nx
    · have hat := at_2 true n hn f k hkn a (by omega) e
      have nx := nx (sk (by rw [e]; simp))
      rw [sf (by rw [e]; simp)] at nx
      exact rf_d own c n hn f _ _ cl k a hkn _ hat nx
    · have hat := at_3 true n hn f k hkn 0 (by omega) e
      have nx := nx (sk (by rw [e]; simp))
      rw [sf (by rw [e]; simp)] at nx
      exact rf_c own c n hn f _ _ cl k hkn _ hat nx
theorem refill_yes (own : Bool) (c : Cnf) (hc : c.Ok) (n : Nat) (hn : (n : Int) = c.s) (f : SupF) (hI : HInv c n f) (cl : Nat) (hcl : cl < c.cl.length) : Tri En 70 [cnfA 0 c, .slice 1 0 (2 * n), .int .i64 cl] [.tab own (.int .i64) c.cl, .tab true (.int .u64) (hW n f)] (refV c (refF c n f cl)) [.tab own (.int .i64) c.cl, .tab true (.int .u64) (hW n (refS c f cl (refF c n f cl)))] := by
  have l1 := hc.l1
  have s1 := hc.s1
  have ih := rf_0 own c hc n (by omega) f hI cl hcl n 0 (by omega) rfl
  have hl := hW_len n f
  generalize refV c (refF c n f cl) = v at *
  generalize refS c f cl (refF c n f cl) = g at *
  refine Tri.of Tryd.func70 rfl Tryd.call70 rfl ?_
  refine Goods.to 2000 [.b false, .l, .stop] mixed (ih) (by kernel_rfl) ?_
  show Yes _
  repeat' apply And.intro
  (all_goals first | rfl | assumption | trivial | omega | (simp [-List.getD_eq_getElem?_getD] <;> omega) | (simp (disch := omega) only [w64, wu64] <;> omega) | (simp (disch := omega) [-List.getD_eq_getElem?_getD, List.getD_cons_zero, List.getD_cons_succ, kCast_self, dfl_pair, dfl_int, w64, wu64] <;> omega) | (rw [Bool.eq_iff_iff]; simp (disch := omega) [-List.getD_eq_getElem?_getD, List.getD_cons_zero, List.getD_cons_succ, kCast_self, dfl_pair, dfl_int, w64, wu64] <;> omega) | (simp_all [-List.getD_eq_getElem?_getD] <;> omega))
theorem refill_no (own : Bool) (c : Cnf) (hc : c.Ok) (n : Nat) (f : SupF) (cl : Nat) (hcl : ¬ cl < c.cl.length) : Tri En 70 [cnfA 0 c, .slice 1 0 (2 * n), .int .i64 cl] [.tab own (.int .i64) c.cl, .tab true (.int .u64) (hW n f)] (opA 0 0) [.tab own (.int .i64) c.cl, .tab true (.int .u64) (hW n f)] := by
  have l1 := hc.l1
  refine Tri.of Tryd.func70 rfl Tryd.call70 rfl ?_
  refine Goods.fin 2000 [.b true] mixed Tryd.func70 ?_
  show Yes _
  repeat' apply And.intro
  (all_goals first | rfl | assumption | trivial | omega | (simp [-List.getD_eq_getElem?_getD] <;> omega) | (simp (disch := omega) only [w64, wu64] <;> omega) | (simp (disch := omega) [-List.getD_eq_getElem?_getD, List.getD_cons_zero, List.getD_cons_succ, kCast_self, dfl_pair, dfl_int, w64, wu64] <;> omega) | (rw [Bool.eq_iff_iff]; simp (disch := omega) [-List.getD_eq_getElem?_getD, List.getD_cons_zero, List.getD_cons_succ, kCast_self, dfl_pair, dfl_int, w64, wu64] <;> omega) | (simp_all [-List.getD_eq_getElem?_getD] <;> omega))
end Go.Proofs.YtcicfbccdgkfhaaDoor.E
