/- WholeFlow: the inner loop; a pop. -/
import Derived.Test.YtcicfbccdgkfhaaDoorLTk
namespace Go.Proofs.YtcicfbccdgkfhaaDoor.E
set_option linter.unusedSimpArgs false
set_option linter.unusedVariables false
open Go
set_option maxRecDepth 100000
theorem sumB_le (l : List Blk) {q S : Nat} (h : q ≤ S) : sumB l q ≤ sumB l S := by
  obtain ⟨r, rfl⟩ : ∃ r, S = q + r := ⟨S - q, by omega⟩
  clear h
  induction r with
  | zero => exact Nat.le_refl _
  | succ r ih => exact Nat.le_trans ih (Nat.le_add_right _ _)
def hrtC (j : Nat) (c : Cnf) : AObj := .cells [.int .i64 c.w, .int .i64 c.s, .int .i64 c.b, .int .i64 c.t, .slice j 0 c.cl.length]
abbrev wfO (own own2 : Bool) (c : Cnf) (k S : Nat) (ac : List Bool) (f : SupF) (s : PS) (ys : List Blk) : List AObj := [.tab own (.int .i64) c.cl, .tab own2 .bool ac, cnfC c, stkC 8 c, hrtC 7 c, .tab true (.int .u64) (hW S f), .tab true BlkK ys, clsO c, clsO c, .mix k rawT (.slice 11 0 s.m), .mix k rawT (.map 12), .tab true BlkK s.zs, .map BlkK .unit s.cl s.es]
noncomputable abbrev gWf (own own2 : Bool) (c : Cnf) (ac : List Bool) : Frm := ⟨En, 5, Tryd.f5.ntmps, [.tab own (.int .i64) c.cl, .tab own2 .bool ac], .bl true, [.gone, .gone]⟩
noncomputable abbrev wf0 (own own2 : Bool) (c : Cnf) (k S : Nat) (ac : List Bool) (f : SupF) (s : PS) (ys : List Blk) (off n i : Nat) : Cfg := ⟨.none, lp Tryd.f5 0, [(3, .ptr 2 0 0), (7, .ptr 3 0 0), (8, .ptr 4 0 0), (9, .int .i64 k), (10, .slice 5 0 (2 * S)), (11, .slice 6 off n), (56, .slice 1 0 ac.length), (57, .int .i64 ac.length), (58, .int .i64 i)], hp (wfO own own2 c k S ac f s ys)⟩
noncomputable abbrev wf1 (own own2 : Bool) (c : Cnf) (k S : Nat) (ac : List Bool) (f : SupF) (s : PS) (ys : List Blk) (off n i : Nat) (v : Int) (j : Nat) : Cfg := ⟨.none, lp Tryd.f5 1, [(3, .ptr 2 0 0), (7, .ptr 3 0 0), (8, .ptr 4 0 0), (9, .int .i64 k), (10, .slice 5 0 (2 * S)), (11, .slice 6 off n), (20, .int .i64 v), (56, .slice 1 0 ac.length), (57, .int .i64 ac.length), (58, .int .i64 i), (129, .int .i64 S), (130, .int .i64 j)], hp (wfO own own2 c k S ac f s ys)⟩
theorem wf_in (own own2 : Bool) (c : Cnf) (h : c.Ok) (k S : Nat) (hk : k < c.cl.length) (hS : (S : Int) = c.s) (ac : List Bool) (hac : ac.length ≤ 400) (f : SupF) (s : PS) (ys : List Blk) (off n i : Nat) (hi : i < ac.length) (l : List Blk) (hF : Flow c k S f l) (hl : l.length = n + s.m) (hn : n ≤ 1000) (hm : (s.m : Int) ≤ 2 * c.b)
    (next : Goods (gWf own own2 c ac) (wf0 own own2 c k S ac f s ys off n (i + 1))) : ∀ (r j : Nat), j + r = S → Goods (gWf own own2 c ac) (wf1 own own2 c k S ac f s ys off n i ((n : Int) + s.m + flT c k f j) j)
  | 0, j, hj => by
    obtain rfl : j = S := by omega
    have l1 := h.l1
    have b1 := h.b1
    have b0 := h.b0
    have h1 := slen_tri c k rawT rawT s.zs s.m s.cl s.es l1 hk
    have e : (n : Int) + s.m + flT c k f j = 0 := by rw [flT_all h hS hF, hl]; omega
    rw [e]
    refine Goods.to 2000 [.b false, .s 158 (some false) true true, .k 162 (.of h1), .s 166 (some false) true true, .l, .stop] mixed (next) (by kernel_rfl) ?_
    show Yes _
    repeat' apply And.intro
    (all_goals first | rfl | assumption | trivial | omega | (simp [-List.getD_eq_getElem?_getD] <;> omega) | (simp (disch := omega) only [w64, wu64] <;> omega) | (simp (disch := omega) [-List.getD_eq_getElem?_getD, List.getD_cons_zero, List.getD_cons_succ, kCast_self, dfl_pair, dfl_int, w64, wu64] <;> omega) | (rw [Bool.eq_iff_iff]; simp (disch := omega) [-List.getD_eq_getElem?_getD, List.getD_cons_zero, List.getD_cons_succ, kCast_self, dfl_pair, dfl_int, w64, wu64] <;> omega) | (simp_all [-List.getD_eq_getElem?_getD] <;> omega))
  | r + 1, j, hj => by
    have l1 := h.l1
    have s1 := h.s1
    have b1 := h.b1
    have ih := wf_in own own2 c h k S hk hS ac hac f s ys off n i hi l hF hl hn hm next r (j + 1) (by omega)
    have hw := hW_len S f
    have hsum : ∀ q, q ≤ S → flT c k f q = -(sumB l q : Int) := fun q hq => flT_sum h hF q hq
    have hlS := sumB_all (S := S) l fun b hb => ⟨(hF.inb b hb).1, by have := (hF.inb b hb).2.1; omega⟩
    have hlej := sumB_le l (show j ≤ S by omega)
    obtain ⟨z, z1, z2, z3, z4, z5, z6, z7⟩ := cap_eq h hk
    have e : IntKind.i64.wrap (Int.tdiv 1024 (z : Int)) = ((1024 / z : Nat) : Int) := by
      rw [show Int.tdiv 1024 (z : Int) = ((1024 / z : Nat) : Int) by rw [Int.tdiv_eq_ediv_of_nonneg (by omega)]; rfl]
      exact w64 (by omega) (by omega)
    have hcur := hsum j (by omega)
    have hT : flT c k f (j + 1) = flT c k f j + (if (f j).1 = 1 then ((bitsL (f j).2.2).length : Int) - capN c k else 0) := rfl
    rw [hT, z5] at ih
    generalize flT c k f j = v at *
    rcases hF.sup j (by omega) with ⟨h1, _⟩ | ⟨m, h1, h2, h3, h4, _⟩
    · have hat := at_0 true S (by omega) f j (by omega) 0 (by omega) h1
      have hc := count_tri 0 (by omega)
      rw [show (bitsL 0).length = 0 from rfl] at hc
      rw [h1, if_neg (by simp)] at ih
      refine Goods.to 2000 [.b true, .c (.of hat), .c (.of hc), .b false, .l, .stop] mixed (ih) (by kernel_rfl) ?_
      show Yes _
      repeat' apply And.intro
      (all_goals first | rfl | assumption | trivial | omega | (simp [-List.getD_eq_getElem?_getD] <;> omega) | (simp (disch := omega) only [w64, wu64] <;> omega) | (simp (disch := omega) [-List.getD_eq_getElem?_getD, List.getD_cons_zero, List.getD_cons_succ, kCast_self, dfl_pair, dfl_int, w64, wu64] <;> omega) | (rw [Bool.eq_iff_iff]; simp (disch := omega) [-List.getD_eq_getElem?_getD, List.getD_cons_zero, List.getD_cons_succ, kCast_self, dfl_pair, dfl_int, w64, wu64] <;> omega) | (simp_all [-List.getD_eq_getElem?_getD] <;> omega))
    · have hat := at_1 true S (by omega) f j (by omega) k m (by omega) h1
      have hc := count_tri m h4
      have hb := L_le m
      rw [h1, if_pos rfl] at ih
      simp only at ih
      generalize (bitsL m).length = x at *
      generalize 1024 / z = q at *
      refine Goods.to 2000 [.b true, .c (.of hat), .c (.of hc), .b true, .l, .stop] mixed (ih) (by kernel_rfl) ?_
      show Yes _
      repeat' apply And.intro
      (all_goals first | rfl | assumption | trivial | omega | (simp [-List.getD_eq_getElem?_getD, z1, e] <;> omega) | (simp (disch := omega) only [w64, wu64] <;> omega) | (simp (disch := omega) [-List.getD_eq_getElem?_getD, List.getD_cons_zero, List.getD_cons_succ, kCast_self, dfl_pair, dfl_int, w64, wu64, z1, e] <;> omega) | (rw [Bool.eq_iff_iff]; simp (disch := omega) [-List.getD_eq_getElem?_getD, List.getD_cons_zero, List.getD_cons_succ, kCast_self, dfl_pair, dfl_int, w64, wu64, z1, e] <;> omega) | (simp_all [-List.getD_eq_getElem?_getD] <;> omega))
end Go.Proofs.YtcicfbccdgkfhaaDoor.E
