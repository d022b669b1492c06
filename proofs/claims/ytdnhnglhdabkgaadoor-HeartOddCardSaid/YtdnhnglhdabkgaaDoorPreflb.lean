/- The document's superblocks: Refill, Flush. -/
import Derived.Test.YtdnhnglhdabkgaaDoorPrefl
import Derived.Test.YtdnhnglhdabkgaaDoorPheartf
namespace Go.Proofs.YtdnhnglhdabkgaaDoor.E
set_option linter.unusedSimpArgs false
set_option linter.unusedVariables false
open Go
set_option maxRecDepth 100000

theorem rL_at {n : Nat} {f : SupF} {i k a m : Nat} (hi : i < n) (e : f i = (k, a, m)) : (rL n f).getD i (0, 0, 0) = ((k : Int), (a : Int), (m : Int)) := by rw [rL_get hi, e]; rfl
noncomputable abbrev gRr (own : Bool) (c : Cnf) (n : Nat) (f : SupF) (v : AV) (os : List AObj) : Frm := ⟨En, 33, Tryd.f33.ntmps, [.tab own (.int .i64) c.cl, rlT n f], v, os⟩
noncomputable abbrev rr1 (own : Bool) (c : Cnf) (n : Nat) (f : SupF) (cl k : Nat) (A : Int) (M : Nat) : Cfg := ⟨.none, lp Tryd.f33 0, [(1, .slice 1 0 n), (2, .int .i64 cl), (3, .ptr 2 0 0), (7, .ptr 3 0 0), (8, .int .i64 A), (9, .int .u64 M), (10, .int .i64 k)], hp [.tab own (.int .i64) c.cl, rlT n f, boxC c, .cells [.int .u64 0, .int .u64 0]]⟩
noncomputable abbrev rr2 (own : Bool) (c : Cnf) (n : Nat) (f : SupF) (cl k : Nat) (A : Int) (M : Nat) : Cfg := ⟨.none, lp Tryd.f33 1, [(1, .slice 1 0 n), (2, .int .i64 cl), (3, .ptr 2 0 0), (7, .ptr 3 0 0), (8, .int .i64 A), (9, .int .u64 M), (11, .int .i64 k)], hp [.tab own (.int .i64) c.cl, rlT n f, boxC c, .cells [.int .u64 0, .int .u64 0]]⟩
theorem rr1_a (own : Bool) (c : Cnf) (n : Nat) (hn : n ≤ 64) (f : SupF) (v : AV) (os : List AObj) (cl k : Nat) (A : Int) (M : Nat) (hk : k < n) (kd a m : Nat) (hy : (rL n f).getD k (dfl SupK) = ((kd : Int), (a : Int), (m : Int))) (hA : 0 ≤ A) (ih : Goods (gRr own c n f v os) (rr1 own c n f cl (k + 1) A M)) : Goods (gRr own c n f v os) (rr1 own c n f cl k A M) := by
  have hl := rL_len n f
  refine Goods.to 2000 [.b true, .s 31 (some false) true true, .l, .stop] mixed (ih) (by kernel_rfl) ?_
  show Yes _
  repeat' apply And.intro
  (all_goals first | rfl | assumption | trivial | omega | (simp [-List.getD_eq_getElem?_getD, hy] <;> omega) | (simp (disch := omega) only [w64, wu64] <;> omega) | (simp (disch := omega) [-List.getD_eq_getElem?_getD, List.getD_cons_zero, List.getD_cons_succ, kCast_self, dfl_pair, dfl_int, w64, wu64, hy] <;> omega) | (rw [Bool.eq_iff_iff]; simp (disch := omega) [-List.getD_eq_getElem?_getD, List.getD_cons_zero, List.getD_cons_succ, kCast_self, dfl_pair, dfl_int, w64, wu64, hy] <;> omega) | (simp_all [-List.getD_eq_getElem?_getD] <;> omega))
theorem rr1_b (own : Bool) (c : Cnf) (n : Nat) (hn : n ≤ 64) (f : SupF) (v : AV) (os : List AObj) (cl k : Nat) (A : Int) (M : Nat) (hk : k < n) (kd a m : Nat) (hy : (rL n f).getD k (dfl SupK) = ((kd : Int), (a : Int), (m : Int))) (hA : A < 0) (hk1 : kd ≠ 1) (ih : Goods (gRr own c n f v os) (rr1 own c n f cl (k + 1) A M)) : Goods (gRr own c n f v os) (rr1 own c n f cl k A M) := by
  have hl := rL_len n f
  refine Goods.to 2000 [.b true, .s 31 (some true) true true, .s 38 (some false) true true, .l, .stop] mixed (ih) (by kernel_rfl) ?_
  show Yes _
  repeat' apply And.intro
  (all_goals first | rfl | assumption | trivial | omega | (simp [-List.getD_eq_getElem?_getD, hy] <;> omega) | (simp (disch := omega) only [w64, wu64] <;> omega) | (simp (disch := omega) [-List.getD_eq_getElem?_getD, List.getD_cons_zero, List.getD_cons_succ, kCast_self, dfl_pair, dfl_int, w64, wu64, hy] <;> omega) | (rw [Bool.eq_iff_iff]; simp (disch := omega) [-List.getD_eq_getElem?_getD, List.getD_cons_zero, List.getD_cons_succ, kCast_self, dfl_pair, dfl_int, w64, wu64, hy] <;> omega) | (simp_all [-List.getD_eq_getElem?_getD] <;> omega))
theorem rr1_c (own : Bool) (c : Cnf) (n : Nat) (hn : n ≤ 64) (f : SupF) (v : AV) (os : List AObj) (cl k : Nat) (A : Int) (M : Nat) (hk : k < n) (kd a m : Nat) (hy : (rL n f).getD k (dfl SupK) = ((kd : Int), (a : Int), (m : Int))) (hA : A < 0) (hk1 : kd = 1) (h2 : a ≠ cl) (ih : Goods (gRr own c n f v os) (rr1 own c n f cl (k + 1) A M)) : Goods (gRr own c n f v os) (rr1 own c n f cl k A M) := by
  have hl := rL_len n f
  refine Goods.to 2000 [.b true, .s 31 (some true) true true, .s 38 (some true) true true, .s 47 (some false) true true, .l, .stop] mixed (ih) (by kernel_rfl) ?_
  show Yes _
  repeat' apply And.intro
  (all_goals first | rfl | assumption | trivial | omega | (simp [-List.getD_eq_getElem?_getD, hy] <;> omega) | (simp (disch := omega) only [w64, wu64] <;> omega) | (simp (disch := omega) [-List.getD_eq_getElem?_getD, List.getD_cons_zero, List.getD_cons_succ, kCast_self, dfl_pair, dfl_int, w64, wu64, hy] <;> omega) | (rw [Bool.eq_iff_iff]; simp (disch := omega) [-List.getD_eq_getElem?_getD, List.getD_cons_zero, List.getD_cons_succ, kCast_self, dfl_pair, dfl_int, w64, wu64, hy] <;> omega) | (simp_all [-List.getD_eq_getElem?_getD] <;> omega))
theorem rr1_d (own : Bool) (c : Cnf) (n : Nat) (hn : n ≤ 64) (f : SupF) (v : AV) (os : List AObj) (cl k : Nat) (A : Int) (M : Nat) (hk : k < n) (kd a m : Nat) (hy : (rL n f).getD k (dfl SupK) = ((kd : Int), (a : Int), (m : Int))) (hA : A < 0) (hk1 : kd = 1) (h2 : a = cl) (h3 : m = 0) (ih : Goods (gRr own c n f v os) (rr1 own c n f cl (k + 1) A M)) : Goods (gRr own c n f v os) (rr1 own c n f cl k A M) := by
  have hl := rL_len n f
  refine Goods.to 2000 [.b true, .s 31 (some true) true true, .s 38 (some true) true true, .s 47 (some true) true true, .s 55 (some false) true true, .l, .stop] mixed (ih) (by kernel_rfl) ?_
  show Yes _
  repeat' apply And.intro
  (all_goals first | rfl | assumption | trivial | omega | (simp [-List.getD_eq_getElem?_getD, hy] <;> omega) | (simp (disch := omega) only [w64, wu64] <;> omega) | (simp (disch := omega) [-List.getD_eq_getElem?_getD, List.getD_cons_zero, List.getD_cons_succ, kCast_self, dfl_pair, dfl_int, w64, wu64, hy] <;> omega) | (rw [Bool.eq_iff_iff]; simp (disch := omega) [-List.getD_eq_getElem?_getD, List.getD_cons_zero, List.getD_cons_succ, kCast_self, dfl_pair, dfl_int, w64, wu64, hy] <;> omega) | (simp_all [-List.getD_eq_getElem?_getD] <;> omega))
theorem rr1_e (own : Bool) (c : Cnf) (n : Nat) (hn : n ≤ 64) (f : SupF) (v : AV) (os : List AObj) (cl k : Nat) (A : Int) (M : Nat) (hk : k < n) (kd a m : Nat) (hy : (rL n f).getD k (dfl SupK) = ((kd : Int), (a : Int), (m : Int))) (hA : A < 0) (hk1 : kd = 1) (h2 : a = cl) (h3 : m ≠ 0) (ih : Goods (gRr own c n f v os) (rr1 own c n f cl (k + 1) k m)) : Goods (gRr own c n f v os) (rr1 own c n f cl k A M) := by
  have hl := rL_len n f
  refine Goods.to 2000 [.b true, .s 31 (some true) true true, .s 38 (some true) true true, .s 47 (some true) true true, .s 55 (some true) true true, .l, .stop] mixed (ih) (by kernel_rfl) ?_
  show Yes _
  repeat' apply And.intro
  (all_goals first | rfl | assumption | trivial | omega | (simp [-List.getD_eq_getElem?_getD, hy] <;> omega) | (simp (disch := omega) only [w64, wu64] <;> omega) | (simp (disch := omega) [-List.getD_eq_getElem?_getD, List.getD_cons_zero, List.getD_cons_succ, kCast_self, dfl_pair, dfl_int, w64, wu64, hy] <;> omega) | (rw [Bool.eq_iff_iff]; simp (disch := omega) [-List.getD_eq_getElem?_getD, List.getD_cons_zero, List.getD_cons_succ, kCast_self, dfl_pair, dfl_int, w64, wu64, hy] <;> omega) | (simp_all [-List.getD_eq_getElem?_getD] <;> omega))
theorem rr2_a (own : Bool) (c : Cnf) (n : Nat) (hn : n ≤ 64) (f : SupF) (v : AV) (os : List AObj) (cl k : Nat) (A : Int) (M : Nat) (hk : k < n) (kd a m : Nat) (hy : (rL n f).getD k (dfl SupK) = ((kd : Int), (a : Int), (m : Int))) (hA : 0 ≤ A) (ih : Goods (gRr own c n f v os) (rr2 own c n f cl (k + 1) A M)) : Goods (gRr own c n f v os) (rr2 own c n f cl k A M) := by
  have hl := rL_len n f
  refine Goods.to 2000 [.b true, .s 70 (some false) true true, .l, .stop] mixed (ih) (by kernel_rfl) ?_
  show Yes _
  repeat' apply And.intro
  (all_goals first | rfl | assumption | trivial | omega | (simp [-List.getD_eq_getElem?_getD, hy] <;> omega) | (simp (disch := omega) only [w64, wu64] <;> omega) | (simp (disch := omega) [-List.getD_eq_getElem?_getD, List.getD_cons_zero, List.getD_cons_succ, kCast_self, dfl_pair, dfl_int, w64, wu64, hy] <;> omega) | (rw [Bool.eq_iff_iff]; simp (disch := omega) [-List.getD_eq_getElem?_getD, List.getD_cons_zero, List.getD_cons_succ, kCast_self, dfl_pair, dfl_int, w64, wu64, hy] <;> omega) | (simp_all [-List.getD_eq_getElem?_getD] <;> omega))
theorem rr2_b (own : Bool) (c : Cnf) (n : Nat) (hn : n ≤ 64) (f : SupF) (v : AV) (os : List AObj) (cl k : Nat) (A : Int) (M : Nat) (hk : k < n) (kd a m : Nat) (hy : (rL n f).getD k (dfl SupK) = ((kd : Int), (a : Int), (m : Int))) (hA : A < 0) (hk1 : kd ≠ 0) (ih : Goods (gRr own c n f v os) (rr2 own c n f cl (k + 1) A M)) : Goods (gRr own c n f v os) (rr2 own c n f cl k A M) := by
  have hl := rL_len n f
  refine Goods.to 2000 [.b true, .s 70 (some true) true true, .s 77 (some false) true true, .l, .stop] mixed (ih) (by kernel_rfl) ?_
  show Yes _
  repeat' apply And.intro
  (all_goals first | rfl | assumption | trivial | omega | (simp [-List.getD_eq_getElem?_getD, hy] <;> omega) | (simp (disch := omega) only [w64, wu64] <;> omega) | (simp (disch := omega) [-List.getD_eq_getElem?_getD, List.getD_cons_zero, List.getD_cons_succ, kCast_self, dfl_pair, dfl_int, w64, wu64, hy] <;> omega) | (rw [Bool.eq_iff_iff]; simp (disch := omega) [-List.getD_eq_getElem?_getD, List.getD_cons_zero, List.getD_cons_succ, kCast_self, dfl_pair, dfl_int, w64, wu64, hy] <;> omega) | (simp_all [-List.getD_eq_getElem?_getD] <;> omega))
theorem rr2_c (own : Bool) (c : Cnf) (hc : c.Ok) (n : Nat) (hn : n ≤ 64) (f : SupF) (v : AV) (os : List AObj) (cl k : Nat) (A : Int) (M : Nat) (hk : k < n) (a m : Nat) (hy : (rL n f).getD k (dfl SupK) = (((0 : Nat) : Int), (a : Int), (m : Int))) (hA : A < 0) (ih : Goods (gRr own c n f v os) (rr2 own c n f cl (k + 1) k (allN c cl))) : Goods (gRr own c n f v os) (rr2 own c n f cl k A M) := by
  have hl := rL_len n f
  have h1 := rcap_tri own c hc cl
  have h2 : Tri En 38 [.int .i64 (capN c cl)] [] (.int .u64 (allN c cl)) [] := rlow_tri (capN c cl)
  generalize allN c cl = z at *
  generalize capN c cl = y at *
  refine Goods.to 2000 [.b true, .s 70 (some true) true true, .s 77 (some true) true true, .c (.of h1), .c (.of h2), .l, .stop] mixed (ih) (by kernel_rfl) ?_
  show Yes _
  repeat' apply And.intro
  (all_goals first | rfl | assumption | trivial | omega | (simp [-List.getD_eq_getElem?_getD, hy] <;> omega) | (simp (disch := omega) only [w64, wu64] <;> omega) | (simp (disch := omega) [-List.getD_eq_getElem?_getD, List.getD_cons_zero, List.getD_cons_succ, kCast_self, dfl_pair, dfl_int, w64, wu64, hy] <;> omega) | (rw [Bool.eq_iff_iff]; simp (disch := omega) [-List.getD_eq_getElem?_getD, List.getD_cons_zero, List.getD_cons_succ, kCast_self, dfl_pair, dfl_int, w64, wu64, hy] <;> omega) | (simp_all [-List.getD_eq_getElem?_getD] <;> omega))
theorem rr_none (own : Bool) (c : Cnf) (n : Nat) (hn : n ≤ 64) (f : SupF) (cl M : Nat) : Goods (gRr own c n f (.tuple [.slice 1 0 n, opA 0 0]) [.tab own (.int .i64) c.cl, rlT n f]) (rr2 own c n f cl n (-1) M) := by
  have hl := rL_len n f
  refine Goods.fin 2000 [.b false, .b true] mixed Tryd.func33 ?_
  show Yes _
  repeat' apply And.intro
  (all_goals first | rfl | assumption | trivial | omega | (simp [-List.getD_eq_getElem?_getD] <;> omega) | (simp (disch := omega) only [w64, wu64] <;> omega) | (simp (disch := omega) [-List.getD_eq_getElem?_getD, List.getD_cons_zero, List.getD_cons_succ, kCast_self, dfl_pair, dfl_int, w64, wu64] <;> omega) | (rw [Bool.eq_iff_iff]; simp (disch := omega) [-List.getD_eq_getElem?_getD, List.getD_cons_zero, List.getD_cons_succ, kCast_self, dfl_pair, dfl_int, w64, wu64] <;> omega) | (simp_all [-List.getD_eq_getElem?_getD] <;> omega))
theorem rr_some (own : Bool) (c : Cnf) (hc : c.Ok) (n : Nat) (hn : n ≤ 64) (f : SupF) (cl i m : Nat) (hi : i < n) (hm : m < 18446744073709551616) : Goods (gRr own c n f (.tuple [.slice 2 0 n, opA (i + 1) (leastN m c.b)]) [.tab own (.int .i64) c.cl, .gone, rlT n (updS f i (1, cl, m - leastN m c.b))]) (rr2 own c n f cl n i m) := by
  have hl := rL_len n f
  have b1 := hc.b1
  have b0 := hc.b0
  have h1 := rleast_tri m hm c.b
  have h2 := (not_sub (leastN_lt m c.b) hm (least_sub m c.b)).2
  have hw := rwith_tri n hn f i hi (1, cl, m - leastN m c.b)
  have hl2 := leastN_lt m c.b
  unfold rA at hw
  simp only at hw
  generalize updS f i (1, cl, m - leastN m c.b) = g at *
  generalize leastN m c.b = s at *
  obtain ⟨d, hd⟩ : ∃ d, m = s + d := ⟨m - s, by omega⟩
  subst hd
  rw [Nat.add_sub_cancel_left] at hw
  refine Goods.fin 2000 [.b false, .b false, .c (.of h1), .c (.of hw)] mixed Tryd.func33 ?_
  show Yes _
  repeat' apply And.intro
  (all_goals first | rfl | assumption | trivial | omega | (simp [-List.getD_eq_getElem?_getD] <;> omega) | (simp (disch := omega) only [w64, wu64] <;> omega) | (simp (disch := omega) [-List.getD_eq_getElem?_getD, List.getD_cons_zero, List.getD_cons_succ, kCast_self, dfl_pair, dfl_int, w64, wu64] <;> omega) | (rw [Bool.eq_iff_iff]; simp (disch := omega) [-List.getD_eq_getElem?_getD, List.getD_cons_zero, List.getD_cons_succ, kCast_self, dfl_pair, dfl_int, w64, wu64] <;> omega) | (simp_all [-List.getD_eq_getElem?_getD] <;> omega))
/-- Both loops. -/
def mOf (f : SupF) (A : Int) : Nat := if 0 ≤ A then (f A.toNat).2.2 else 0
theorem rr_2 (own : Bool) (c : Cnf) (hc : c.Ok) (n : Nat) (hn : n ≤ 64) (f : SupF) (v : AV) (os : List AObj) (cl : Nat) (hf : Goods (gRr own c n f v os) (rr2 own c n f cl n (ffree f n) (if 0 ≤ ffree f n then allN c cl else 0))) : ∀ (j k : Nat), k + j = n → Goods (gRr own c n f v os) (rr2 own c n f cl k (ffree f k) (if 0 ≤ ffree f k then allN c cl else 0))
  | 0, k, hk => by
    obtain rfl : k = n := by omega
    exact hf
  | j + 1, k, hk => by
    have nx := rr_2 own c hc n hn f v os cl hf j (k + 1) (by omega)
    obtain ⟨⟨kd, a, m⟩, e⟩ : ∃ x, f k = x := ⟨_, rfl⟩
    have hy := rL_at (show k < n by omega) e
    have e2 : ffree f (k + 1) = if 0 ≤ ffree f k then ffree f k else if kd = 0 then (k : Int) else -1 := by simp only [ffree]; rw [e]
    by_cases h : 0 ≤ ffree f k
    · rw [if_pos h] at e2
      rw [e2] at nx
      exact rr2_a own c n hn f v os cl k _ _ (by omega) kd a m hy h nx
    · rw [if_neg h] at e2
      by_cases h2 : kd = 0
      · rw [if_pos h2] at e2
        rw [e2, if_pos (by omega)] at nx
        subst h2
        exact rr2_c own c hc n hn f v os cl k _ _ (by omega) a m hy (by omega) nx
      · rw [if_neg h2] at e2
        have e3 : ffree f k = -1 := by rcases ffree_spec f k with ⟨h3, _⟩ | ⟨i, h3, _⟩ <;> omega
        rw [e2, if_neg (by omega)] at nx
        rw [e3, if_neg (by omega)]
        exact rr2_b own c n hn f v os cl k _ _ (by omega) kd a m hy (by omega) h2 nx
theorem rr_2s (own : Bool) (c : Cnf) (n : Nat) (hn : n ≤ 64) (f : SupF) (v : AV) (os : List AObj) (cl : Nat) (A : Int) (M : Nat) (hA : 0 ≤ A) (hf : Goods (gRr own c n f v os) (rr2 own c n f cl n A M)) : ∀ (j k : Nat), k + j = n → Goods (gRr own c n f v os) (rr2 own c n f cl k A M)
  | 0, k, hk => by
    obtain rfl : k = n := by omega
    exact hf
  | j + 1, k, hk => by
    have nx := rr_2s own c n hn f v os cl A M hA hf j (k + 1) (by omega)
    obtain ⟨⟨kd, a, m⟩, e⟩ : ∃ x, f k = x := ⟨_, rfl⟩
    exact rr2_a own c n hn f v os cl k _ _ (by omega) kd a m (rL_at (show k < n by omega) e) hA nx
theorem rr_1 (own : Bool) (c : Cnf) (n : Nat) (hn : n ≤ 64) (f : SupF) (v : AV) (os : List AObj) (cl : Nat) (hf : Goods (gRr own c n f v os) (rr1 own c n f cl n (fcls f cl n) (mOf f (fcls f cl n)))) : ∀ (j k : Nat), k + j = n → Goods (gRr own c n f v os) (rr1 own c n f cl k (fcls f cl k) (mOf f (fcls f cl k)))
  | 0, k, hk => by
    obtain rfl : k = n := by omega
    exact hf
  | j + 1, k, hk => by
    have nx := rr_1 own c n hn f v os cl hf j (k + 1) (by omega)
    obtain ⟨⟨kd, a, m⟩, e⟩ : ∃ x, f k = x := ⟨_, rfl⟩
    have hy := rL_at (show k < n by omega) e
    have e2 : fcls f cl (k + 1) = if 0 ≤ fcls f cl k then fcls f cl k else if kd = 1 ∧ a = cl ∧ m ≠ 0 then (k : Int) else -1 := by simp only [fcls]; rw [e]
    by_cases h : 0 ≤ fcls f cl k
    · rw [if_pos h] at e2
      rw [e2] at nx
      exact rr1_a own c n hn f v os cl k _ _ (by omega) kd a m hy h nx
    · rw [if_neg h] at e2
      have e3 : fcls f cl k = -1 := by rcases fcls_spec f cl k with ⟨h3, _⟩ | ⟨i, h3, _⟩ <;> omega
      by_cases h2 : kd = 1 ∧ a = cl ∧ m ≠ 0
      · rw [if_pos h2] at e2
        have e4 : mOf f ((k : Nat) : Int) = m := by unfold mOf; rw [if_pos (by omega), Int.toNat_natCast, e]
        rw [e2, e4] at nx
        exact rr1_e own c n hn f v os cl k _ _ (by omega) kd a m hy (by omega) h2.1 h2.2.1 h2.2.2 nx
      · rw [if_neg h2] at e2
        rw [e2] at nx
        rw [e3]
        by_cases h3 : kd = 1
        · by_cases h4 : a = cl
          · exact rr1_d own c n hn f v os cl k _ _ (by omega) kd a m hy (by omega) h3 h4 (Classical.byContradiction fun h5 => h2 ⟨h3, h4, h5⟩) nx
          · exact rr1_c own c n hn f v os cl k _ _ (by omega) kd a m hy (by omega) h3 h4 nx
        · exact rr1_b own c n hn f v os cl k _ _ (by omega) kd a m hy (by omega) h3 nx
/-- A refill's answer, and the superblocks behind it. -/
theorem rr_start (own : Bool) (c : Cnf) (hc : c.Ok) (n : Nat) (hn : (n : Int) = c.s) (f : SupF) (cl : Nat) (hcl : cl < c.cl.length) (v : AV) (os : List AObj) (ih : Goods (gRr own c n f v os) (rr1 own c n f cl 0 (-1) 0)) : Tri En 33 [cnfA 0 c, .slice 1 0 n, .int .i64 cl] [.tab own (.int .i64) c.cl, rlT n f] v os := by
  have l1 := hc.l1
  refine Tri.of Tryd.func33 rfl Tryd.call33 rfl ?_
  refine Goods.to 2000 [.s 14 (some false) true true, .s 20 (some false) true true, .l, .stop] mixed (ih) (by kernel_rfl) ?_
  show Yes _
  repeat' apply And.intro
  (all_goals first | rfl | assumption | trivial | omega | (simp [-List.getD_eq_getElem?_getD] <;> omega) | (simp (disch := omega) only [w64, wu64] <;> omega) | (simp (disch := omega) [-List.getD_eq_getElem?_getD, List.getD_cons_zero, List.getD_cons_succ, kCast_self, dfl_pair, dfl_int, w64, wu64] <;> omega) | (rw [Bool.eq_iff_iff]; simp (disch := omega) [-List.getD_eq_getElem?_getD, List.getD_cons_zero, List.getD_cons_succ, kCast_self, dfl_pair, dfl_int, w64, wu64] <;> omega) | (simp_all [-List.getD_eq_getElem?_getD] <;> omega))
theorem rr_mid (own : Bool) (c : Cnf) (n : Nat) (hn : n ≤ 64) (f : SupF) (cl : Nat) (A : Int) (M : Nat) (v : AV) (os : List AObj) (ih : Goods (gRr own c n f v os) (rr2 own c n f cl 0 A M)) : Goods (gRr own c n f v os) (rr1 own c n f cl n A M) := by
  have hl := rL_len n f
  refine Goods.to 2000 [.b false, .l, .stop] mixed (ih) (by kernel_rfl) ?_
  show Yes _
  repeat' apply And.intro
  (all_goals first | rfl | assumption | trivial | omega | (simp [-List.getD_eq_getElem?_getD] <;> omega) | (simp (disch := omega) only [w64, wu64] <;> omega) | (simp (disch := omega) [-List.getD_eq_getElem?_getD, List.getD_cons_zero, List.getD_cons_succ, kCast_self, dfl_pair, dfl_int, w64, wu64] <;> omega) | (rw [Bool.eq_iff_iff]; simp (disch := omega) [-List.getD_eq_getElem?_getD, List.getD_cons_zero, List.getD_cons_succ, kCast_self, dfl_pair, dfl_int, w64, wu64] <;> omega) | (simp_all [-List.getD_eq_getElem?_getD] <;> omega))
theorem rrefill_none (own : Bool) (c : Cnf) (hc : c.Ok) (n : Nat) (hn : (n : Int) = c.s) (f : SupF) (cl : Nat) (hcl : cl < c.cl.length) (hr : refF c n f cl = none) : Tri En 33 [cnfA 0 c, .slice 1 0 n, .int .i64 cl] [.tab own (.int .i64) c.cl, rlT n f] (.tuple [.slice 1 0 n, opA 0 0]) [.tab own (.int .i64) c.cl, rlT n f] := by
  have s1 := hc.s1
  unfold refF at hr
  by_cases h1 : 0 ≤ fcls f cl n
  · rw [if_pos h1] at hr; simp at hr
  · rw [if_neg h1] at hr
    by_cases h2 : 0 ≤ ffree f n
    · rw [if_pos h2] at hr; simp at hr
    · have e1 : fcls f cl n = -1 := by rcases fcls_spec f cl n with ⟨h3, _⟩ | ⟨i, h3, _⟩ <;> omega
      have e2 : ffree f n = -1 := by rcases ffree_spec f n with ⟨h3, _⟩ | ⟨i, h3, _⟩ <;> omega
      have a1 := rr_none own c n (by omega) f cl 0
      have a2 := rr_2 own c hc n (by omega) f _ _ cl (by rw [e2, if_neg (by omega)]; exact a1) n 0 (by omega)
      have a3 := rr_mid own c n (by omega) f cl _ _ _ _ a2
      have a4 := rr_1 own c n (by omega) f _ _ cl (by rw [e1]; exact a3) n 0 (by omega)
      exact rr_start own c hc n hn f cl hcl _ _ a4
theorem rrefill_some (own : Bool) (c : Cnf) (hc : c.Ok) (n : Nat) (hn : (n : Int) = c.s) (f : SupF) (hI : HInv c n f) (cl : Nat) (hcl : cl < c.cl.length) (i m : Nat) (hr : refF c n f cl = some (i, m)) : Tri En 33 [cnfA 0 c, .slice 1 0 n, .int .i64 cl] [.tab own (.int .i64) c.cl, rlT n f] (.tuple [.slice 2 0 n, opA (i + 1) (leastN m c.b)]) [.tab own (.int .i64) c.cl, .gone, rlT n (updS f i (1, cl, m - leastN m c.b))] := by
  have s1 := hc.s1
  unfold refF at hr
  by_cases h1 : 0 ≤ fcls f cl n
  · rw [if_pos h1] at hr
    simp only [Option.some.injEq, Prod.mk.injEq] at hr
    obtain ⟨r1, r2⟩ := hr
    rcases fcls_spec f cl n with ⟨h3, _⟩ | ⟨i', h3, h4, h5, _⟩
    · omega
    rw [h3, Int.toNat_natCast] at r1 r2
    subst r1
    have hb := (hI.bnd hc (by omega) h4).2.2
    rw [r2] at hb
    have a1 := rr_some own c hc n (by omega) f cl i' m h4 hb
    have a2 := rr_2s own c n (by omega) f _ _ cl _ _ (by omega) a1 n 0 (by omega)
    have a3 := rr_mid own c n (by omega) f cl _ _ _ _ a2
    have e : mOf f (fcls f cl n) = m := by unfold mOf; rw [h3, if_pos (by omega), Int.toNat_natCast, r2]
    have a4 := rr_1 own c n (by omega) f _ _ cl (by rw [e, h3]; exact a3) n 0 (by omega)
    exact rr_start own c hc n hn f cl hcl _ _ a4
  · rw [if_neg h1] at hr
    have e1 : fcls f cl n = -1 := by rcases fcls_spec f cl n with ⟨h3, _⟩ | ⟨i, h3, _⟩ <;> omega
    by_cases h2 : 0 ≤ ffree f n
    · rw [if_pos h2] at hr
      simp only [Option.some.injEq, Prod.mk.injEq] at hr
      obtain ⟨r1, r2⟩ := hr
      rcases ffree_spec f n with ⟨h3, _⟩ | ⟨i', h3, h4, h5, _⟩
      · omega
      rw [h3, Int.toNat_natCast] at r1
      subst r1 r2
      have a1 := rr_some own c hc n (by omega) f cl i' (allN c cl) h4 (allN_lt ..)
      have a2 := rr_2 own c hc n (by omega) f _ _ cl (by rw [h3, if_pos (by omega)]; exact a1) n 0 (by omega)
      have a3 := rr_mid own c n (by omega) f cl _ _ _ _ a2
      have a4 := rr_1 own c n (by omega) f _ _ cl (by rw [e1]; exact a3) n 0 (by omega)
      exact rr_start own c hc n hn f cl hcl _ _ a4
    · rw [if_neg h2] at hr; simp at hr
theorem rrefill_no (own : Bool) (c : Cnf) (hc : c.Ok) (n : Nat) (f : SupF) (cl : Nat) (hcl : ¬ cl < c.cl.length) : Tri En 33 [cnfA 0 c, .slice 1 0 n, .int .i64 cl] [.tab own (.int .i64) c.cl, rlT n f] (.tuple [.slice 1 0 n, opA 0 0]) [.tab own (.int .i64) c.cl, rlT n f] := by
  have l1 := hc.l1
  refine Tri.of Tryd.func33 rfl Tryd.call33 rfl ?_
  refine Goods.fin 2000 [.s 14 (some false) true true, .s 20 (some true) true true] mixed Tryd.func33 ?_
  show Yes _
  repeat' apply And.intro
  (all_goals first | rfl | assumption | trivial | omega | (simp [-List.getD_eq_getElem?_getD] <;> omega) | (simp (disch := omega) only [w64, wu64] <;> omega) | (simp (disch := omega) [-List.getD_eq_getElem?_getD, List.getD_cons_zero, List.getD_cons_succ, kCast_self, dfl_pair, dfl_int, w64, wu64] <;> omega) | (rw [Bool.eq_iff_iff]; simp (disch := omega) [-List.getD_eq_getElem?_getD, List.getD_cons_zero, List.getD_cons_succ, kCast_self, dfl_pair, dfl_int, w64, wu64] <;> omega) | (simp_all [-List.getD_eq_getElem?_getD] <;> omega))
end Go.Proofs.YtdnhnglhdabkgaaDoor.E
