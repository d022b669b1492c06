/- The document's superblocks: Flush concluded; Give. -/
import Derived.Test.YtdnhnglhdabkgaaDoorPreflc
namespace Go.Proofs.YtdnhnglhdabkgaaDoor.E
set_option linter.unusedSimpArgs false
set_option linter.unusedVariables false
open Go
set_option maxRecDepth 100000

theorem rfl_good (own : Bool) (c : Cnf) (n : Nat) (hn : n ≤ 64) (f : SupF) (v : AV) (os : List AObj) (i m z a b : Nat) (hi : i < n) (hm : m < 18446744073709551616) (hz : z < 18446744073709551616) (hb : b < 18446744073709551616) (hy : (rL n f).getD i (dfl SupK) = (((1 : Nat) : Int), (a : Int), (b : Int))) (hok : ∀ k, k < 64 → ¬ badB m z b k) (hf : Goods (gRF own c n f v os) (rfL own c n f i m z 64)) : ∀ (j k : Nat), k + j = 64 → Goods (gRF own c n f v os) (rfL own c n f i m z k)
  | 0, k, hk => by
    obtain rfl : k = 64 := by omega
    exact hf
  | j + 1, k, hk => by
    have ih := rfl_good own c n hn f v os i m z a b hi hm hz hb hy hok hf j (k + 1) (by omega)
    have h := hok k (by omega)
    unfold badB at h
    cases hx : m.testBit k
    · exact rfl_a own c n hn f v os i m z k a b hi hm hz hb hy (by omega) hx ih
    · exact rfl_b own c n hn f v os i m z k a b hi hm hz hb hy (by omega) hx (eq_true_of_ne_false fun e => h ⟨hx, .inl e⟩) (eq_false_of_ne_true fun e => h ⟨hx, .inr e⟩) ih
theorem rfl_bad (own : Bool) (c : Cnf) (n : Nat) (hn : n ≤ 64) (f : SupF) (i m z a b : Nat) (hi : i < n) (hm : m < 18446744073709551616) (hz : z < 18446744073709551616) (hb : b < 18446744073709551616) (hy : (rL n f).getD i (dfl SupK) = (((1 : Nat) : Int), (a : Int), (b : Int))) : ∀ (j k : Nat), k + j = 64 → (∃ q, k ≤ q ∧ q < 64 ∧ badB m z b q) → Goods (gRF own c n f (oldR n) [.tab own (.int .i64) c.cl, rlT n f]) (rfL own c n f i m z k)
  | 0, k, hk, h => by
    obtain ⟨q, h1, h2, _⟩ := h
    omega
  | j + 1, k, hk, h => by
    cases hx : m.testBit k
    · refine rfl_a own c n hn f _ _ i m z k a b hi hm hz hb hy (by omega) hx (rfl_bad own c n hn f i m z a b hi hm hz hb hy j (k + 1) (by omega) ?_)
      obtain ⟨q, h1, h2, h3⟩ := h
      refine ⟨q, ?_, h2, h3⟩
      by_cases e : q = k
      · subst e; have := h3.1; rw [hx] at this; simp at this
      · omega
    · cases hz1 : z.testBit k
      · exact rfl_c own c n hn f i m z k a b hi hm hz hb hy (by omega) hx hz1
      · cases hb1 : b.testBit k
        · refine rfl_b own c n hn f _ _ i m z k a b hi hm hz hb hy (by omega) hx hz1 hb1 (rfl_bad own c n hn f i m z a b hi hm hz hb hy j (k + 1) (by omega) ?_)
          obtain ⟨q, h1, h2, h3⟩ := h
          refine ⟨q, ?_, h2, h3⟩
          by_cases e : q = k
          · subst e; have := h3.2; rw [hz1, hb1] at this; simp at this
          · omega
        · exact rfl_d own c n hn f i m z k a b hi hm hz hb hy (by omega) hx hz1 hb1
theorem ok_bad (c : Cnf) (a b m : Nat) (hm : m < 18446744073709551616) : flOk c a b m ↔ ∀ k, k < 64 → ¬ badB m (allN c a) b k := by
  unfold flOk badB
  constructor
  · rintro ⟨h1, h2⟩ k hk ⟨h3, h4⟩
    rcases h4 with h4 | h4
    · rw [h1 k hk h3] at h4; simp at h4
    · have := congrArg (fun x => Nat.testBit x k) h2
      simp only [Nat.testBit_and, h3, h4, Nat.zero_testBit] at this
      simp at this
  · intro h
    refine ⟨fun i hi e => ?_, bit_ext (by rw [pow64]; exact and_lt64 m b hm) (by rw [pow64]; omega) fun i hi => ?_⟩
    · cases hz : (allN c a).testBit i
      · exact absurd ⟨e, .inl hz⟩ (h i hi)
      · rfl
    · rw [Nat.testBit_and, Nat.zero_testBit]
      cases e : m.testBit i
      · rfl
      · cases hb : b.testBit i
        · rfl
        · exact absurd ⟨e, .inr hb⟩ (h i hi)
theorem rflush_start (own : Bool) (c : Cnf) (hc : c.Ok) (n : Nat) (hn : n ≤ 64) (f : SupF) (i m a b : Nat) (hi : i < n) (hm0 : m ≠ 0) (hy : (rL n f).getD i (dfl SupK) = (((1 : Nat) : Int), (a : Int), (b : Int))) (v : AV) (os : List AObj) (ih : Goods (gRF own c n f v os) (rfL own c n f i m (allN c a) 0)) : TRf own c n f i m v os := by
  have hl := rL_len n f
  have h1 := rcap_tri own c hc a
  have h2 : Tri En 38 [.int .i64 (capN c a)] [] (.int .u64 (allN c a)) [] := rlow_tri (capN c a)
  generalize allN c a = z at *
  generalize capN c a = y at *
  refine Tri.of Tryd.func34 rfl Tryd.call34 rfl ?_
  refine Goods.to 2000 [.s 13 (some false) true true, .s 18 (some false) true true, .s 26 (some false) true true, .s 30 (some false) true true, .c (.of h1), .c (.of h2), .l, .stop] mixed (ih) (by kernel_rfl) ?_
  show Yes _
  repeat' apply And.intro
  (all_goals first | rfl | assumption | trivial | omega | (simp [-List.getD_eq_getElem?_getD, hy] <;> omega) | (simp (disch := omega) only [w64, wu64] <;> omega) | (simp (disch := omega) [-List.getD_eq_getElem?_getD, List.getD_cons_zero, List.getD_cons_succ, kCast_self, dfl_pair, dfl_int, w64, wu64, hy] <;> omega) | (rw [Bool.eq_iff_iff]; simp (disch := omega) [-List.getD_eq_getElem?_getD, List.getD_cons_zero, List.getD_cons_succ, kCast_self, dfl_pair, dfl_int, w64, wu64, hy] <;> omega) | (simp_all [-List.getD_eq_getElem?_getD] <;> omega))
theorem rflush_bad (own : Bool) (c : Cnf) (hc : c.Ok) (n : Nat) (hn : n ≤ 64) (f : SupF) (i m a b : Nat) (hi : i < n) (hm : m < 18446744073709551616) (hb : b < 18446744073709551616) (hm0 : m ≠ 0) (hy : (rL n f).getD i (dfl SupK) = (((1 : Nat) : Int), (a : Int), (b : Int))) (hok : ¬ flOk c a b m) : TRf own c n f i m (oldR n) [.tab own (.int .i64) c.cl, rlT n f] := by
  refine rflush_start own c hc n hn f i m a b hi hm0 hy _ _ (rfl_bad own c n hn f i m _ a b hi hm (allN_lt ..) hb hy 64 0 (by omega) ?_)
  refine Classical.byContradiction fun h => hok ((ok_bad c a b m hm).2 fun k hk hb => h ⟨k, Nat.zero_le _, hk, hb⟩)
abbrev newR (n : Nat) (x y : Nat) : AV := .tuple [.slice 2 0 n, opA x y]
theorem rflush_all (own : Bool) (c : Cnf) (hc : c.Ok) (n : Nat) (hn : n ≤ 64) (f : SupF) (i m a b : Nat) (hi : i < n) (hm : m < 18446744073709551616) (hb : b < 18446744073709551616) (hm0 : m ≠ 0) (hy : (rL n f).getD i (dfl SupK) = (((1 : Nat) : Int), (a : Int), (b : Int))) (hok : flOk c a b m) (heq : b ||| m = allN c a) : TRf own c n f i m (newR n 1 0) [.tab own (.int .i64) c.cl, .gone, rlT n (updS f i (0, 0, 0))] := by
  have e0 := or_disj hb hm (by rw [Nat.and_comm]; exact hok.2)
  have hlt := allN_lt c a
  rw [← heq, e0] at hlt
  have e : (IntKind.u64.wrap ((b : Int) + (m : Int)) == ((allN c a : Nat) : Int)) = true := by rw [← heq, e0, wu64 (by omega) (by omega)]; simp
  have h0 : Goods (gRF own c n f (newR n 1 0) [.tab own (.int .i64) c.cl, .gone, rlT n (updS f i (0, 0, 0))]) (rfL own c n f i m (allN c a) 64) := by
    have hl := rL_len n f
    have hw := rwith_tri n hn f i hi (0, 0, 0)
    clear heq e0 hlt hok
    generalize allN c a = z at *
    generalize updS f i (0, 0, 0) = g at *
    refine Goods.fin 2000 [.b false, .b true, .c (.of hw)] mixed Tryd.func34 ?_
    show Yes _
    repeat' apply And.intro
    (all_goals first | rfl | assumption | trivial | omega | (simp [-List.getD_eq_getElem?_getD, hy, e] <;> omega) | (simp (disch := omega) only [w64, wu64] <;> omega) | (simp (disch := omega) [-List.getD_eq_getElem?_getD, List.getD_cons_zero, List.getD_cons_succ, kCast_self, dfl_pair, dfl_int, w64, wu64, hy, e] <;> omega) | (rw [Bool.eq_iff_iff]; simp (disch := omega) [-List.getD_eq_getElem?_getD, List.getD_cons_zero, List.getD_cons_succ, kCast_self, dfl_pair, dfl_int, w64, wu64, hy, e] <;> omega) | (simp_all [-List.getD_eq_getElem?_getD] <;> omega))
  exact rflush_start own c hc n hn f i m a b hi hm0 hy _ _ (rfl_good own c n hn f _ _ i m _ a b hi hm (allN_lt ..) hb hy ((ok_bad c a b m hm).1 hok) h0 64 0 (by omega))
theorem rflush_some (own : Bool) (c : Cnf) (hc : c.Ok) (n : Nat) (hn : n ≤ 64) (f : SupF) (i m a b : Nat) (hi : i < n) (hm : m < 18446744073709551616) (hb : b < 18446744073709551616) (hm0 : m ≠ 0) (hy : (rL n f).getD i (dfl SupK) = (((1 : Nat) : Int), (a : Int), (b : Int))) (hok : flOk c a b m) (heq : b ||| m ≠ allN c a) : TRf own c n f i m (newR n 1 0) [.tab own (.int .i64) c.cl, .gone, rlT n (updS f i (1, a, b ||| m))] := by
  have e0 := or_disj hb hm (by rw [Nat.and_comm]; exact hok.2)
  have hlt := or_lt64 hb hm
  rw [e0] at hlt heq
  have e : (IntKind.u64.wrap ((b : Int) + (m : Int)) == ((allN c a : Nat) : Int)) = false := by rw [wu64 (by omega) (by omega)]; simp; omega
  have e2 : IntKind.u64.wrap ((b : Int) + (m : Int)) = ((b + m : Nat) : Int) := by rw [wu64 (by omega) (by omega)]; omega
  rw [e0]
  have h0 : Goods (gRF own c n f (newR n 1 0) [.tab own (.int .i64) c.cl, .gone, rlT n (updS f i (1, a, b + m))]) (rfL own c n f i m (allN c a) 64) := by
    have hl := rL_len n f
    have hw := rwith_tri n hn f i hi (1, a, b + m)
    clear heq e0 hlt hok
    unfold rA at hw
    simp only at hw
    rw [← e2] at hw
    generalize allN c a = z at *
    generalize updS f i (1, a, b + m) = g at *
    refine Goods.fin 2000 [.b false, .b false, .c (.of hw)] mixed Tryd.func34 ?_
    show Yes _
    repeat' apply And.intro
    (all_goals first | rfl | assumption | trivial | omega | (simp [-List.getD_eq_getElem?_getD, hy, e, e2] <;> omega) | (simp (disch := omega) only [w64, wu64] <;> omega) | (simp (disch := omega) [-List.getD_eq_getElem?_getD, List.getD_cons_zero, List.getD_cons_succ, kCast_self, dfl_pair, dfl_int, w64, wu64, hy, e, e2] <;> omega) | (rw [Bool.eq_iff_iff]; simp (disch := omega) [-List.getD_eq_getElem?_getD, List.getD_cons_zero, List.getD_cons_succ, kCast_self, dfl_pair, dfl_int, w64, wu64, hy, e, e2] <;> omega) | (simp_all [-List.getD_eq_getElem?_getD] <;> omega))
  exact rflush_start own c hc n hn f i m a b hi hm0 hy _ _ (rfl_good own c n hn f _ _ i m _ a b hi hm (allN_lt ..) hb hy ((ok_bad c a b m hm).1 hok) h0 64 0 (by omega))
end Go.Proofs.YtdnhnglhdabkgaaDoor.E
