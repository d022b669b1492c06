/- HeartRuns: the law's steps. -/
import Derived.Test.YtdnhnglhdabkgaaDoorL11h
namespace Go.Proofs.YtdnhnglhdabkgaaDoor.E
set_option linter.unusedSimpArgs false
set_option linter.unusedVariables false
open Go
set_option maxRecDepth 100000

def hcell (j : Nat) (c : Cnf) : AObj := .cells [.int .i64 c.w, .int .i64 c.s, .int .i64 c.b, .int .i64 c.t, .slice j 0 c.cl.length]
noncomputable abbrev gHr (c : Cnf) (xs : List Int) : Frm := ⟨En, 3, Tryd.f3.ntmps, [.tab false (.int .i64) c.cl, .tab false (.int .u8) xs], .bl true, gones 2⟩
noncomputable abbrev hrSt (c : Cnf) (xs : List Int) (tu : Bool) (n : Nat) (l : List Nat) (k : Nat) : Cfg := ⟨.none, lp Tryd.f3 0, [(2, .bool tu), (3, .ptr 2 0 0), (7, .ptr 3 0 0), (8, .int .i64 l.sum), (9, .slice 4 0 (2 * n)), (10, .slice 6 0 (starts 0 l).length), (32, .slice 1 0 xs.length), (33, .int .i64 xs.length), (34, .int .i64 k)],
  hp [.tab false (.int .i64) c.cl, .tab false (.int .u8) xs, cnfD c, hcell 5 c, .tab true (.int .u64) (hW n (cov 0 l)), .tab true (.int .i64) c.cl, .tab true (.int .i64) (starts 0 l)]⟩
noncomputable abbrev hrS2 (c : Cnf) (xs : List Int) (tu : Bool) (n : Nat) (l : List Nat) (f : SupF) (i : Nat) : Cfg := ⟨.none, lp Tryd.f3 1, [(2, .bool tu), (3, .ptr 2 0 0), (7, .ptr 3 0 0), (9, .slice 4 0 (2 * n)), (10, .slice 6 0 (starts 0 l).length), (73, .int .i64 (starts 0 l).length), (74, .int .i64 i)],
  hp [.tab false (.int .i64) c.cl, .tab false (.int .u8) xs, cnfD c, hcell 5 c, .tab true (.int .u64) (hW n f), .tab true (.int .i64) c.cl, .tab true (.int .i64) (starts 0 l)]⟩
set_option maxHeartbeats 4000000 in
theorem hr_in (c : Cnf) (hc : c.Ok) (xs : List Int) (hx : xs.length ≤ 100) (tu : Bool) (n : Nat) (hn : (n : Int) = c.s) (l : List Nat) (hl : ∀ a ∈ l, 1 ≤ a) (hll : l.length ≤ 100) (hI : HInv c n (cov 0 l)) (k : Nat) (hk : k < xs.length) (y q : Nat) (hy : xs.getD k (dfl (.int .u8)) = (y : Int)) (hq : IntKind.i64.wrap (1 + Int.tmod (IntKind.i64.wrap (y : Int)) c.s) = (q : Int)) (hq1 : 1 ≤ q) (hq2 : q ≤ 64) (hfit : l.sum + q ≤ n) (ih : Goods (gHr c xs) (hrSt c xs tu n (l ++ [q]) (k + 1))) : Goods (gHr c xs) (hrSt c xs tu n l k) := by
  have s1 := hc.s1
  obtain ⟨r1, r2, _⟩ := cov_row (n := n) hq1 l hl
  have ht := take_yes true c hc n hn (cov 0 l) hI q l.sum hq1 (r1 hfit) r2
  have hs := cov_snoc q hq1 l 0 hl
  rw [Nat.zero_add] at hs
  rw [← hs] at ht
  have ha := apply_3 true c n _ _ q 0 (by omega) _ _ ht
  have g3 : IntKind.i64.wrap (1 + Int.tmod (IntKind.i64.wrap (xs.getD k 0)) c.s) = (q : Int) := by
    rw [show xs.getD k 0 = (y : Int) from hy]; exact hq
  have g2 : IntKind.i64.wrap ((l.sum : Int) + IntKind.i64.wrap (1 + Int.tmod (IntKind.i64.wrap (xs.getD k 0)) c.s)) = ((l.sum + q : Nat) : Int) := by
    rw [g3, w64 (by omega) (by omega)]; omega
  have g1 : decide (IntKind.i64.wrap ((l.sum : Int) + IntKind.i64.wrap (1 + Int.tmod (IntKind.i64.wrap (xs.getD k 0)) c.s)) > c.s) = false := by
    rw [g2]; exact decide_eq_false (by omega)
  clear hy hq
  have hk1 := ask_take q (by omega)
  have e1 := starts_snoc q l 0
  rw [Nat.zero_add] at e1
  have hlen := starts_len l 0
  unfold TAp at ha
  unfold hrSt at *
  rw [e1] at ih
  rw [List.sum_append, List.sum_cons, List.sum_nil, Nat.add_zero, List.length_append] at ih
  generalize askN 3 q = z at *
  have hw1 := hW_len n (cov 0 l)
  generalize hW n (cov 0 l) = W1 at *
  generalize hW n (cov 0 (l ++ [q])) = W2 at *
  generalize starts 0 l = S at *
  generalize l.sum = t at *
  refine Goods.to 2000 [.b true, .k 47 (.of hk1), .k 48 (.of ha), .b false, .b false, .l, .stop] mixed (ih) (by kernel_rfl) ?_
  show Yes _
  repeat' apply And.intro
  all_goals try first | exact g1 | exact g2 | exact g3
  (all_goals first | rfl | assumption | trivial | omega | (simp [-List.getD_eq_getElem?_getD] <;> omega) | (simp (disch := omega) only [w64, wu64] <;> omega) | (simp (disch := omega) [-List.getD_eq_getElem?_getD, List.getD_cons_zero, List.getD_cons_succ, kCast_self, dfl_pair, dfl_int, w64, wu64] <;> omega) | (rw [Bool.eq_iff_iff]; simp (disch := omega) [-List.getD_eq_getElem?_getD, List.getD_cons_zero, List.getD_cons_succ, kCast_self, dfl_pair, dfl_int, w64, wu64] <;> omega) | (simp_all [-List.getD_eq_getElem?_getD] <;> omega))
set_option maxHeartbeats 4000000 in
theorem hr_out (c : Cnf) (hc : c.Ok) (xs : List Int) (hx : xs.length ≤ 100) (tu : Bool) (n : Nat) (hn : (n : Int) = c.s) (l : List Nat) (hl : ∀ a ∈ l, 1 ≤ a) (hsum : l.sum ≤ n) (hI : HInv c n (cov 0 l)) (k : Nat) (hk : k < xs.length) (y q : Nat) (hy : xs.getD k (dfl (.int .u8)) = (y : Int)) (hq : IntKind.i64.wrap (1 + Int.tmod (IntKind.i64.wrap (y : Int)) c.s) = (q : Int)) (hq1 : 1 ≤ q) (hq2 : q ≤ 64) (hfit : ¬ l.sum + q ≤ n) (ih : Goods (gHr c xs) (hrSt c xs tu n l (k + 1))) : Goods (gHr c xs) (hrSt c xs tu n l k) := by
  have s1 := hc.s1
  have s0 := hc.s0
  obtain ⟨_, _, r3⟩ := cov_row (n := n) hq1 l hl
  have ht := take_no true c hc n hn (cov 0 l) hI q fun _ => r3 hfit
  have ha := apply_3 true c n _ _ q 0 (by omega) _ _ ht
  have g3 : IntKind.i64.wrap (1 + Int.tmod (IntKind.i64.wrap (xs.getD k 0)) c.s) = (q : Int) := by
    rw [show xs.getD k 0 = (y : Int) from hy]; exact hq
  have g2 : IntKind.i64.wrap ((l.sum : Int) + IntKind.i64.wrap (1 + Int.tmod (IntKind.i64.wrap (xs.getD k 0)) c.s)) = ((l.sum + q : Nat) : Int) := by
    rw [g3, w64 (by omega) (by omega)]; omega
  have g1 : decide (IntKind.i64.wrap ((l.sum : Int) + IntKind.i64.wrap (1 + Int.tmod (IntKind.i64.wrap (xs.getD k 0)) c.s)) > c.s) = true := by
    rw [g2]; exact decide_eq_true (by omega)
  clear hy hq
  have hk1 := ask_take q (by omega)
  have hlen := starts_len l 0
  unfold TAp at ha
  unfold hrSt at *
  generalize askN 3 q = z at *
  have hw1 := hW_len n (cov 0 l)
  generalize hW n (cov 0 l) = W1 at *
  generalize starts 0 l = S at *
  generalize l.sum = t at *
  refine Goods.to 2000 [.b true, .k 47 (.of hk1), .k 48 (.of ha), .b true, .b false, .l, .stop] mixed (ih) (by kernel_rfl) ?_
  show Yes _
  repeat' apply And.intro
  all_goals try first | exact g1 | exact g2 | exact g3
  (all_goals first | rfl | assumption | trivial | omega | (simp [-List.getD_eq_getElem?_getD] <;> omega) | (simp (disch := omega) only [w64, wu64] <;> omega) | (simp (disch := omega) [-List.getD_eq_getElem?_getD, List.getD_cons_zero, List.getD_cons_succ, kCast_self, dfl_pair, dfl_int, w64, wu64] <;> omega) | (rw [Bool.eq_iff_iff]; simp (disch := omega) [-List.getD_eq_getElem?_getD, List.getD_cons_zero, List.getD_cons_succ, kCast_self, dfl_pair, dfl_int, w64, wu64] <;> omega) | (simp_all [-List.getD_eq_getElem?_getD] <;> omega))
set_option maxHeartbeats 4000000 in
theorem hr_give_up (c : Cnf) (hc : c.Ok) (xs : List Int) (n : Nat) (hn : (n : Int) = c.s) (l : List Nat) (hll : l.length ≤ 100) (f f' : SupF) (i : Nat) (hi : i < l.length) (p : Nat) (hp64 : p < 64) (hy : (starts 0 l).getD i (dfl (.int .i64)) = (p : Int)) (h1 : TGv true c n f p (opA 1 0) f') (h2 : TGv true c n f' p (opA 0 0) f') (ih : Goods (gHr c xs) (hrS2 c xs false n l f' (i + 1))) : Goods (gHr c xs) (hrS2 c xs false n l f i) := by
  have s1 := hc.s1
  have hk1 := ask_give p (by omega)
  have a1 := apply_4 true c n f f' p 0 (by omega) 1 0 h1
  have a2 := apply_4 true c n f' f' p 0 (by omega) 0 0 h2
  have hlen := starts_len l 0
  unfold TAp at a1 a2
  unfold hrS2 at *
  rw [hlen] at ih ⊢
  generalize askN 4 p = z at *
  have hw1 := hW_len n f
  have hw2 := hW_len n f'
  generalize hW n f = W1 at *
  generalize hW n f' = W2 at *
  generalize starts 0 l = S at *
  generalize l.length = m at *
  have e1 : (IntKind.i64.wrap (IntKind.i64.wrap ((m : Int) - 1) - i)).toNat = m - 1 - i := by rw [w64 (x := (m : Int) - 1) (by omega) (by omega), w64 (by omega) (by omega)]; omega
  try rw [← e1] at hy
  refine Goods.to 2000 [.b true, .b false, .k 90 (.of hk1), .k 91 (.of a1), .s 93 (some false) true true, .k 101 (.of hk1), .k 102 (.of a2), .s 104 (some false) true true, .l, .stop] mixed (ih) (by kernel_rfl) ?_
  show Yes _
  repeat' apply And.intro
  (all_goals first | rfl | assumption | trivial | omega | (simp [-List.getD_eq_getElem?_getD, hy] <;> omega) | (simp (disch := omega) only [w64, wu64] <;> omega) | (simp (disch := omega) [-List.getD_eq_getElem?_getD, List.getD_cons_zero, List.getD_cons_succ, kCast_self, dfl_pair, dfl_int, w64, wu64, hy] <;> omega) | (rw [Bool.eq_iff_iff]; simp (disch := omega) [-List.getD_eq_getElem?_getD, List.getD_cons_zero, List.getD_cons_succ, kCast_self, dfl_pair, dfl_int, w64, wu64, hy] <;> omega) | (simp_all [-List.getD_eq_getElem?_getD] <;> omega))
set_option maxHeartbeats 4000000 in
theorem hr_give_dn (c : Cnf) (hc : c.Ok) (xs : List Int) (n : Nat) (hn : (n : Int) = c.s) (l : List Nat) (hll : l.length ≤ 100) (f f' : SupF) (i : Nat) (hi : i < l.length) (p : Nat) (hp64 : p < 64) (hy : (starts 0 l).getD (l.length - 1 - i) (dfl (.int .i64)) = (p : Int)) (h1 : TGv true c n f p (opA 1 0) f') (h2 : TGv true c n f' p (opA 0 0) f') (ih : Goods (gHr c xs) (hrS2 c xs true n l f' (i + 1))) : Goods (gHr c xs) (hrS2 c xs true n l f i) := by
  have s1 := hc.s1
  have hk1 := ask_give p (by omega)
  have a1 := apply_4 true c n f f' p 0 (by omega) 1 0 h1
  have a2 := apply_4 true c n f' f' p 0 (by omega) 0 0 h2
  have hlen := starts_len l 0
  unfold TAp at a1 a2
  unfold hrS2 at *
  rw [hlen] at ih ⊢
  generalize askN 4 p = z at *
  have hw1 := hW_len n f
  have hw2 := hW_len n f'
  generalize hW n f = W1 at *
  generalize hW n f' = W2 at *
  generalize starts 0 l = S at *
  generalize l.length = m at *
  have e1 : (IntKind.i64.wrap (IntKind.i64.wrap ((m : Int) - 1) - i)).toNat = m - 1 - i := by rw [w64 (x := (m : Int) - 1) (by omega) (by omega), w64 (by omega) (by omega)]; omega
  try rw [← e1] at hy
  refine Goods.to 2000 [.b true, .b true, .k 90 (.of hk1), .k 91 (.of a1), .s 93 (some false) true true, .k 101 (.of hk1), .k 102 (.of a2), .s 104 (some false) true true, .l, .stop] mixed (ih) (by kernel_rfl) ?_
  show Yes _
  repeat' apply And.intro
  (all_goals first | rfl | assumption | trivial | omega | (simp [-List.getD_eq_getElem?_getD, hy] <;> omega) | (simp (disch := omega) only [w64, wu64] <;> omega) | (simp (disch := omega) [-List.getD_eq_getElem?_getD, List.getD_cons_zero, List.getD_cons_succ, kCast_self, dfl_pair, dfl_int, w64, wu64, hy] <;> omega) | (rw [Bool.eq_iff_iff]; simp (disch := omega) [-List.getD_eq_getElem?_getD, List.getD_cons_zero, List.getD_cons_succ, kCast_self, dfl_pair, dfl_int, w64, wu64, hy] <;> omega) | (simp_all [-List.getD_eq_getElem?_getD] <;> omega))
theorem hr_end (c : Cnf) (hc : c.Ok) (xs : List Int) (tu : Bool) (n : Nat) (hn : (n : Int) = c.s) (l : List Nat) : Goods (gHr c xs) (hrS2 c xs tu n l (fun _ => (0, 0, 0)) l.length) := by
  have s1 := hc.s1
  have h1 := rnew_tri false c hc n hn
  have h2 := same_tri c hc n (by omega) _ (HInv.zero c n)
  have hlen := starts_len l 0
  unfold hrS2
  generalize (fun _ => (0, 0, 0) : SupF) = f at *
  generalize starts 0 l = S at *
  refine Goods.fin 2000 [.b false, .k 109 (.of h1), .k 110 (.of h2)] mixed Tryd.func3 ?_
  show Yes _
  repeat' apply And.intro
  (all_goals first | rfl | assumption | trivial | omega | (simp [-List.getD_eq_getElem?_getD] <;> omega) | (simp (disch := omega) only [w64, wu64] <;> omega) | (simp (disch := omega) [-List.getD_eq_getElem?_getD, List.getD_cons_zero, List.getD_cons_succ, kCast_self, dfl_pair, dfl_int, w64, wu64] <;> omega) | (rw [Bool.eq_iff_iff]; simp (disch := omega) [-List.getD_eq_getElem?_getD, List.getD_cons_zero, List.getD_cons_succ, kCast_self, dfl_pair, dfl_int, w64, wu64] <;> omega) | (simp_all [-List.getD_eq_getElem?_getD] <;> omega))
end Go.Proofs.YtdnhnglhdabkgaaDoor.E
