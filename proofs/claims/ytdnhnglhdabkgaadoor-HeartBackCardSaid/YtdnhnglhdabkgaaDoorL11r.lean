/- HeartBack: the law's steps. -/
import Derived.Test.YtdnhnglhdabkgaaDoorL11q
namespace Go.Proofs.YtdnhnglhdabkgaaDoor.E
set_option linter.unusedSimpArgs false
set_option linter.unusedVariables false
open Go
set_option maxRecDepth 100000

abbrev OpK : K := .pair (.int .u64) (.int .u64)
def opsL (l : List (Nat × Nat)) : List (Int × Int) := l.map fun p => (((p.1 + 1 : Nat) : Int), ((p.2 : Nat) : Int))
@[simp] theorem opsL_len (l : List (Nat × Nat)) : (opsL l).length = l.length := by simp [opsL]
def hcelb (j : Nat) (c : Cnf) : AObj := .cells [.int .i64 c.w, .int .i64 c.s, .int .i64 c.b, .int .i64 c.t, .slice j 0 c.cl.length]
noncomputable abbrev gHb (c : Cnf) : Frm := ⟨En, 6, Tryd.f6.ntmps, [.tab false (.int .i64) c.cl], .bl true, gones 1⟩
noncomputable abbrev hb1 (c : Cnf) (cl n : Nat) (f : SupF) (L : List (Int × Int)) (tot k : Nat) : Cfg := ⟨.none, lp Tryd.f6 0, [(2, .ptr 1 0 0), (5, .ptr 2 0 0), (6, .int .i64 cl), (7, .slice 3 0 (2 * n)), (8, .slice 5 0 L.length), (9, .int .i64 tot), (32, .int .i64 (64 * n + 1 : Nat)), (33, .int .i64 k)],
  hp [.tab false (.int .i64) c.cl, cnfD c, hcelb 4 c, .tab true (.int .u64) (hW n f), .tab true (.int .i64) c.cl, .tab true OpK L]⟩
noncomputable abbrev hb2 (c : Cnf) (n : Nat) (f : SupF) (L : List (Int × Int)) (k : Nat) : Cfg := ⟨.none, lp Tryd.f6 1, [(2, .ptr 1 0 0), (5, .ptr 2 0 0), (7, .slice 3 0 (2 * n)), (69, .slice 5 0 L.length), (70, .int .i64 L.length), (71, .int .i64 k)],
  hp [.tab false (.int .i64) c.cl, cnfD c, hcelb 4 c, .tab true (.int .u64) (hW n f), .tab true (.int .i64) c.cl, .tab true OpK L]⟩
theorem hb_end (c : Cnf) (hc : c.Ok) (n : Nat) (hn : (n : Int) = c.s) (f : SupF) (hf : ∀ i, i < n → f i = (0, 0, 0)) (L : List (Int × Int)) : Goods (gHb c) (hb2 c n f L L.length) := by
  have s0 := hc.s0
  have s1 := hc.s1
  have ew : hW n f = hW n fun _ => (0, 0, 0) := hW_congr hf
  have h1 := rnew_tri false c hc n hn
  have h2 := same_tri c hc n (by omega) _ (HInv.zero c n)
  have h3 := ask_take n (by omega)
  have h4 := apply_3 true c n _ _ n 0 (by omega) _ _ (take_yes true c hc n hn _ (HInv.zero c n) n 0 (by omega) ⟨by omega, fun k _ => rfl⟩ fun j hj => by omega)
  unfold hb2
  rw [ew]
  unfold TAp at h4
  have hw1 := hW_len n fun _ => (0, 0, 0)
  generalize askN 3 n = z at *
  generalize (fun _ => (0, 0, 0) : SupF) = g at *
  generalize hW n g = W at *
  generalize hW n (runF g 0 n n) = W2 at *
  refine Goods.fin 2000 [.b false, .k 90 (.of h1), .k 91 (.of h2), .k 97 (.of h3), .k 98 (.of h4), .s 100 (some true) true true] mixed Tryd.func6 ?_
  show Yes _
  repeat' apply And.intro
  (all_goals first | rfl | assumption | trivial | omega | (simp [-List.getD_eq_getElem?_getD] <;> omega) | (simp (disch := omega) only [w64, wu64] <;> omega) | (simp (disch := omega) [-List.getD_eq_getElem?_getD, List.getD_cons_zero, List.getD_cons_succ, kCast_self, dfl_pair, dfl_int, w64, wu64] <;> omega) | (rw [Bool.eq_iff_iff]; simp (disch := omega) [-List.getD_eq_getElem?_getD, List.getD_cons_zero, List.getD_cons_succ, kCast_self, dfl_pair, dfl_int, w64, wu64] <;> omega) | (simp_all [-List.getD_eq_getElem?_getD] <;> omega))
theorem hb_back (c : Cnf) (hc : c.Ok) (n : Nat) (hn : (n : Int) = c.s) (f f' : SupF) (L : List (Int × Int)) (hL : L.length ≤ 100000) (k : Nat) (hk : k < L.length) (j y : Nat) (hj : j < n) (hy : L.getD k (dfl OpK) = (((j + 1 : Nat) : Int), ((y : Nat) : Int))) (h1 : TFl true c n f j y (opA 1 0) f') (ih : Goods (gHb c) (hb2 c n f' L (k + 1))) : Goods (gHb c) (hb2 c n f L k) := by
  have s1 := hc.s1
  have hk1 := ask_flush j y (by omega)
  have ha := apply_2 true c n f f' j y (by omega) 1 0 h1
  have e0 : IntKind.i64.wrap (IntKind.i64.wrap (L.getD k (dfl OpK)).1 - 1) = (j : Int) := by
    rw [hy]; simp only; rw [w64 (x := ((j + 1 : Nat) : Int)) (by omega) (by omega), w64 (by omega) (by omega)]; omega
  unfold TAp at ha
  have hw1 := hW_len n f
  have hw2 := hW_len n f'
  unfold hb2 at *
  generalize askN 2 j = z at *
  generalize hW n f = W at *
  generalize hW n f' = W2 at *
  refine Goods.to 2000 [.b true, .k 83 (.of hk1), .k 84 (.of ha), .b false, .l, .stop] mixed (ih) (by kernel_rfl) ?_
  show Yes _
  repeat' apply And.intro
  all_goals try exact e0
  (all_goals first | rfl | assumption | trivial | omega | (simp [-List.getD_eq_getElem?_getD, hy] <;> omega) | (simp (disch := omega) only [w64, wu64] <;> omega) | (simp (disch := omega) [-List.getD_eq_getElem?_getD, List.getD_cons_zero, List.getD_cons_succ, kCast_self, dfl_pair, dfl_int, w64, wu64, hy] <;> omega) | (rw [Bool.eq_iff_iff]; simp (disch := omega) [-List.getD_eq_getElem?_getD, List.getD_cons_zero, List.getD_cons_succ, kCast_self, dfl_pair, dfl_int, w64, wu64, hy] <;> omega) | (simp_all [-List.getD_eq_getElem?_getD] <;> omega))
theorem hb_more (c : Cnf) (hc : c.Ok) (n : Nat) (hn : (n : Int) = c.s) (cl : Nat) (hcl : cl < c.cl.length) (f f' : SupF) (L : List (Int × Int)) (tot : Nat) (hL : L.length ≤ tot) (ht : tot ≤ 4096) (k : Nat) (hk : k < 64 * n + 1) (i s : Nat) (hi : i < n) (hs : s < 18446744073709551616) (h1 : Tri En 28 [cnfA 0 c, .slice 1 0 (2 * n), .int .i64 cl] [.tab true (.int .i64) c.cl, .tab true (.int .u64) (hW n f)] (opA (i + 1) s) [.tab true (.int .i64) c.cl, .tab true (.int .u64) (hW n f')]) (ih : Goods (gHb c) (hb1 c cl n f' (L ++ [(((i + 1 : Nat) : Int), ((s : Nat) : Int))]) (tot + (bitsL s).length) (k + 1))) : Goods (gHb c) (hb1 c cl n f L tot k) := by
  have s1 := hc.s1
  have l1 := hc.l1
  have hk1 := ask_refill cl (by omega)
  have ha := apply_1 true c n f f' cl 0 (by omega) _ _ h1
  have hct := count_tri s hs
  have hle := L_le s
  unfold TAp at ha
  have hw1 := hW_len n f
  have hw2 := hW_len n f'
  unfold hb1 at *
  rw [List.length_append] at ih
  generalize askN 1 cl = z at *
  generalize hW n f = W at *
  generalize hW n f' = W2 at *
  generalize (bitsL s).length = b at *
  refine Goods.to 2000 [.b true, .k 38 (.of hk1), .k 39 (.of ha), .b false, .k 50 (.of hct), .l, .stop] mixed (ih) (by kernel_rfl) ?_
  show Yes _
  repeat' apply And.intro
  (all_goals first | rfl | assumption | trivial | omega | (simp [-List.getD_eq_getElem?_getD] <;> omega) | (simp (disch := omega) only [w64, wu64] <;> omega) | (simp (disch := omega) [-List.getD_eq_getElem?_getD, List.getD_cons_zero, List.getD_cons_succ, kCast_self, dfl_pair, dfl_int, w64, wu64] <;> omega) | (rw [Bool.eq_iff_iff]; simp (disch := omega) [-List.getD_eq_getElem?_getD, List.getD_cons_zero, List.getD_cons_succ, kCast_self, dfl_pair, dfl_int, w64, wu64] <;> omega) | (simp_all [-List.getD_eq_getElem?_getD] <;> omega))
theorem hb_turn (c : Cnf) (hc : c.Ok) (n : Nat) (hn : (n : Int) = c.s) (cl : Nat) (hcl : cl < c.cl.length) (f : SupF) (hI : HInv c n f) (L : List (Int × Int)) (tot : Nat) (htot : tot = n * capN c cl) (k : Nat) (hk : k < 64 * n + 1) (hno : ∀ q j, 1 ≤ q → ¬ rowP n f q j) (h1 : Tri En 28 [cnfA 0 c, .slice 1 0 (2 * n), .int .i64 cl] [.tab true (.int .i64) c.cl, .tab true (.int .u64) (hW n f)] (opA 0 0) [.tab true (.int .i64) c.cl, .tab true (.int .u64) (hW n f)]) (ih : Goods (gHb c) (hb2 c n f L 0)) : Goods (gHb c) (hb1 c cl n f L tot k) := by
  have s1 := hc.s1
  have l1 := hc.l1
  have hk1 := ask_refill cl (by omega)
  have ha := apply_1 true c n f f cl 0 (by omega) _ _ h1
  have hk2 := ask_take 1 (by omega)
  have h2 := apply_3 true c n f f 1 0 (by omega) _ _ (take_no true c hc n hn f hI 1 fun _ j => hno 1 j (by omega))
  have hcap := rcap_tri false c hc cl
  have hle := cap_le hc cl
  have hmul : n * capN c cl ≤ 64 * 64 := Nat.mul_le_mul (by omega) hle
  have e0 : ((tot : Int) != IntKind.i64.wrap (c.s * ((capN c cl : Nat) : Int))) = false := by
    rw [← hn, htot, show (n : Int) * ((capN c cl : Nat) : Int) = ((n * capN c cl : Nat) : Int) by simp, w64 (by omega) (by omega)]; simp
  unfold TAp at ha h2
  have hw1 := hW_len n f
  unfold hb1 hb2 at *
  clear htot hmul
  generalize askN 1 cl = z at *
  generalize askN 3 1 = z2 at *
  generalize hW n f = W at *
  generalize capN c cl = y at *
  refine Goods.to 2000 [.b true, .k 38 (.of hk1), .k 39 (.of ha), .b true, .k 58 (.of hcap), .s 60 (some false) true true, .k 64 (.of hk2), .k 65 (.of h2), .s 67 (some false) true true, .l, .stop] mixed (ih) (by kernel_rfl) ?_
  show Yes _
  repeat' apply And.intro
  all_goals try exact e0
  (all_goals first | rfl | assumption | trivial | omega | (simp [-List.getD_eq_getElem?_getD] <;> omega) | (simp (disch := omega) only [w64, wu64] <;> omega) | (simp (disch := omega) [-List.getD_eq_getElem?_getD, List.getD_cons_zero, List.getD_cons_succ, kCast_self, dfl_pair, dfl_int, w64, wu64] <;> omega) | (rw [Bool.eq_iff_iff]; simp (disch := omega) [-List.getD_eq_getElem?_getD, List.getD_cons_zero, List.getD_cons_succ, kCast_self, dfl_pair, dfl_int, w64, wu64] <;> omega) | (simp_all [-List.getD_eq_getElem?_getD] <;> omega))
end Go.Proofs.YtdnhnglhdabkgaaDoor.E
