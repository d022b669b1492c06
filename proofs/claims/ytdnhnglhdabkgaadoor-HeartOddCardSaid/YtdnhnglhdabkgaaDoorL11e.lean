/- HeartDoes: a step of the script. -/
import Derived.Test.YtdnhnglhdabkgaaDoorL11d
namespace Go.Proofs.YtdnhnglhdabkgaaDoor.E
set_option linter.unusedSimpArgs false
set_option linter.unusedVariables false
open Go
set_option maxRecDepth 100000

theorem not_bits {m s : Nat} (hs : s < 18446744073709551616) (hm : m < 18446744073709551616) (h : subM s m) : subM (m - s) m := fun i hi e => by
  rw [← (not_sub hs hm h).1, andNotN_bit _ _ hi] at e
  simp only [Bool.and_eq_true] at e
  exact e.1
theorem subM.trans {a b c : Nat} (h1 : subM a b) (h2 : subM b c) : subM a c := fun i hi h => h2 i hi (h1 i hi h)
theorem grant_ok {m z : Nat} (hm : m < 18446744073709551616) (hz : z < 18446744073709551616) (h0 : m ≠ 0) (h : subM m z) {b : Int} (hb : 1 ≤ b) : subM (m - leastN m b) z ∧ m - leastN m b ≠ z ∧ m - leastN m b < 18446744073709551616 := by
  have h1 := least_ne hm h0 hb
  have h2 := (not_sub (leastN_lt m b) hm (least_sub m b)).2
  have h3 := (not_sub hm hz h).2
  exact ⟨(not_bits (leastN_lt m b) hm (least_sub m b)).trans h, by omega, by omega⟩
/-- What a refill finds. -/
theorem refF_ok {c : Cnf} (hc : c.Ok) {n : Nat} {f : SupF} (hI : HInv c n f) {cl i m : Nat} (hcl : cl < c.cl.length) (h : refF c n f cl = some (i, m)) : i < n ∧ (f i = (1, cl, m) ∨ (f i = (0, 0, 0) ∧ m = allN c cl)) ∧ m ≠ 0 ∧ m < 18446744073709551616 ∧ subM m (allN c cl) := by
  unfold refF at h
  by_cases h1 : 0 ≤ fcls f cl n
  · rw [if_pos h1] at h
    simp only [Option.some.injEq, Prod.mk.injEq] at h
    obtain ⟨r1, r2⟩ := h
    rcases fcls_spec f cl n with ⟨h3, _⟩ | ⟨i', h3, h4, h5, _⟩
    · omega
    rw [h3, Int.toNat_natCast] at r1 r2
    subst r1
    rcases hI i' h4 with e | ⟨a, m', e, ha, hs, hne, hm⟩ | ⟨a, e, p1, p2, p3⟩ | e
    · rw [e] at h5; simp at h5
    · rw [e] at h5 r2
      simp only at h5 r2
      obtain ⟨_, q2, q3⟩ := h5
      subst q2 r2
      exact ⟨h4, .inl e, q3, hm, hs⟩
    · rw [e] at h5; simp at h5
    · rw [e] at h5; simp at h5
  · rw [if_neg h1] at h
    by_cases h2 : 0 ≤ ffree f n
    · rw [if_pos h2] at h
      simp only [Option.some.injEq, Prod.mk.injEq] at h
      obtain ⟨r1, r2⟩ := h
      rcases ffree_spec f n with ⟨h3, _⟩ | ⟨i', h3, h4, h5, _⟩
      · omega
      rw [h3, Int.toNat_natCast] at r1
      subst r1 r2
      refine ⟨h4, .inr ⟨?_, rfl⟩, allN_ne hc hcl, allN_lt .., fun i _ h => h⟩
      rcases hI i' h4 with e | ⟨a, m', e, _⟩ | ⟨a, e, _⟩ | e
      · exact e
      · rw [e] at h5; simp at h5
      · rw [e] at h5; simp at h5
      · rw [e] at h5; simp at h5
    · rw [if_neg h2] at h; simp at h
theorem refill_inv {c : Cnf} (hc : c.Ok) {n : Nat} {f : SupF} (hI : HInv c n f) {cl i m : Nat} (hcl : cl < c.cl.length) (h : refF c n f cl = some (i, m)) : HInv c n (updS f i (1, cl, m - leastN m c.b)) := by
  obtain ⟨h1, h2, h3, h4, h5⟩ := refF_ok hc hI hcl h
  obtain ⟨g1, g2, g3⟩ := grant_ok h4 (allN_lt c cl) h3 h5 hc.b0
  refine hI.set ?_ (.inr ⟨cl, _, rfl, hcl, g1, g2, g3⟩)
  rcases h2 with e | ⟨e, _⟩ <;> rw [e] <;> simp
/-- What is asked of both comes to the same. -/
theorem do_step (own : Bool) (c : Cnf) (hc : c.Ok) (n : Nat) (hn : (n : Int) = c.s) (f : SupF) (hI : HInv c n f) (kd q : Int) (m ra rb : Nat) (hq1 : -9223372036854775808 ≤ q) (hq2 : q ≤ 9223372036854775807) (hm : m < 18446744073709551616) :
    ∃ x y f', HInv c n f' ∧ (TDo own c n f kd q m ra rb 3 x y f' [rlT n f'] ∨ TDo own c n f kd q m ra rb 4 x y f' [.gone, rlT n f']) := by
  have s1 := hc.s1
  have s0 := hc.s0
  have l1 := hc.l1
  have hn64 : n ≤ 64 := by omega
  have old : ∀ {x y}, TDo own c n f kd q m ra rb 3 x y f [rlT n f] → ∃ x y f', HInv c n f' ∧ (TDo own c n f kd q m ra rb 3 x y f' [rlT n f'] ∨ TDo own c n f kd q m ra rb 4 x y f' [.gone, rlT n f']) := fun h => ⟨_, _, f, hI, .inl h⟩
  by_cases k1 : kd = 1
  · subst k1
    by_cases h0 : 0 ≤ q
    · by_cases h1 : q < 4294967296
      · obtain ⟨q, rfl⟩ : ∃ i : Nat, q = i := ⟨q.toNat, by omega⟩
        have hq : q < 4294967296 := by omega
        by_cases hcl : q < c.cl.length
        · have hr := refill_yes true c hc n hn f hI q hcl
          cases hrf : refF c n f q with
          | none =>
            rw [hrf] at hr
            exact old (do_old1 own c n hn64 f q m ra rb 0 0 hq (rrefill_none own c hc n hn f q hcl hrf) (apply_1 true c n f f q 0 hq 0 0 hr))
          | some p =>
            obtain ⟨i, z⟩ := p
            rw [hrf] at hr
            exact ⟨_, _, _, refill_inv hc hI hcl hrf, .inr (do_new1 own c n hn64 f _ q m ra rb _ _ hq (rrefill_some own c hc n hn f hI q hcl i z hrf) (apply_1 true c n f _ q 0 hq _ _ hr))⟩
        · exact old (do_old1 own c n hn64 f q m ra rb 0 0 hq (rrefill_no own c hc n f q hcl) (apply_1 true c n f f q 0 hq 0 0 (refill_no true c hc n f q hcl)))
      · exact old (do_out1b own c n hn64 f q m ra rb h0 h1 hq1 hq2)
    · exact old (do_out1a own c n hn64 f q m ra rb h0 hq1 hq2)
  · by_cases k2 : kd = 2
    · subst k2
      by_cases h0 : 0 ≤ q
      · by_cases h1 : q < 4294967296
        · obtain ⟨q, rfl⟩ : ∃ i : Nat, q = i := ⟨q.toNat, by omega⟩
          have hq : q < 4294967296 := by omega
          by_cases hqn : q < n
          · rcases hI q hqn with e | ⟨a, b, e, ha, hs, hne, hb⟩ | ⟨a, e, p1, p2, p3⟩ | e
            · exact old (do_old2 own c n hn64 f q m ra rb 0 0 hq (rflush_kind own c n hn64 f q m 0 0 0 hqn (rL_at hqn e) (by omega)) (apply_2 true c n f f q m hq 0 0 (flush_k0 true c n hn64 f q m 0 (at_0 true n hn64 f q hqn 0 (by omega) e))))
            · have hat := at_1 true n hn64 f q hqn a b (by omega) e
              by_cases hm0 : m = 0
              · subst hm0
                exact old (do_old2 own c n hn64 f q 0 ra rb 0 0 hq (rflush_zero own c n hn64 f q a b hqn (rL_at hqn e)) (apply_2 true c n f f q 0 hq 0 0 (flush_zero true c n hn64 f q a b hat)))
              · by_cases hok : flOk c a b m
                · by_cases heq : b ||| m = allN c a
                  · exact ⟨_, _, _, hI.set (by rw [e]; simp) (.inl rfl), .inr (do_new2 own c n hn64 f _ q m ra rb 1 0 hq (rflush_all own c hc n hn64 f q m a b hqn hm hb hm0 (rL_at hqn e) hok heq) (apply_2 true c n f _ q m hq 1 0 (flush_all true c hc n hn64 f q a b m hqn (by omega) hm hb hm0 hok heq hat)))⟩
                  · refine ⟨_, _, _, hI.set (x := (1, a, b ||| m)) (by rw [e]; simp) (.inr ⟨a, _, rfl, ha, fun i hi h => ?_, heq, or_lt64 hb hm⟩), .inr (do_new2 own c n hn64 f _ q m ra rb 1 0 hq (rflush_some own c hc n hn64 f q m a b hqn hm hb hm0 (rL_at hqn e) hok heq) (apply_2 true c n f _ q m hq 1 0 (flush_some true c hc n hn64 f q a b m hqn (by omega) hm hb hm0 hok heq hat)))⟩
                    rw [Nat.testBit_or] at h
                    simp only [Bool.or_eq_true] at h
                    rcases h with h | h
                    · exact hs i hi h
                    · exact hok.1 i hi h
                · exact old (do_old2 own c n hn64 f q m ra rb 0 0 hq (rflush_bad own c hc n hn64 f q m a b hqn hm hb hm0 (rL_at hqn e) hok) (apply_2 true c n f f q m hq 0 0 (flush_bad true c hc n hn64 f q a b m hm hb hm0 hok hat)))
            · exact old (do_old2 own c n hn64 f q m ra rb 0 0 hq (rflush_kind own c n hn64 f q m 2 a 0 hqn (rL_at hqn e) (by omega)) (apply_2 true c n f f q m hq 0 0 (flush_k2 true c n hn64 f q m a (at_2 true n hn64 f q hqn a (by omega) e))))
            · exact old (do_old2 own c n hn64 f q m ra rb 0 0 hq (rflush_kind own c n hn64 f q m 3 0 0 hqn (rL_at hqn e) (by omega)) (apply_2 true c n f f q m hq 0 0 (flush_k3 true c n hn64 f q m 0 (at_3 true n hn64 f q hqn 0 (by omega) e))))
          · exact old (do_old2 own c n hn64 f q m ra rb 0 0 hq (rflush_out own c n hn64 f q m (by omega)) (apply_2 true c n f f q m hq 0 0 (flush_none true c n hn64 f q m (by omega))))
        · exact old (do_out2b own c n hn64 f q m ra rb h0 h1)
      · exact old (do_out2a own c n hn64 f q m ra rb h0)
    · by_cases k3 : kd = 3
      · subst k3
        by_cases h0 : 0 ≤ q
        · by_cases h1 : q < 4294967296
          · obtain ⟨q, rfl⟩ : ∃ i : Nat, q = i := ⟨q.toNat, by omega⟩
            have hq : q < 4294967296 := by omega
            by_cases hq1 : 1 ≤ q
            · rcases row_cases n f q with ⟨i, r1, r2⟩ | hno
              · exact ⟨_, _, _, hI.run hq1 r1.1 r1.2, .inr (do_new3 own c n hn64 f _ q m ra rb _ _ hq (rtake_yes n hn64 f q i hq1 r1 r2) (apply_3 true c n f _ q 0 hq _ _ (take_yes true c hc n hn f hI q i hq1 r1 r2)))⟩
              · exact old (do_old3 own c n hn64 f q m ra rb 0 0 hq (rtake_no n hn64 f q hq fun _ => hno) (apply_3 true c n f f q 0 hq 0 0 (take_no true c hc n hn f hI q fun _ => hno)))
            · exact old (do_old3 own c n hn64 f q m ra rb 0 0 hq (rtake_no n hn64 f q hq fun h => absurd h hq1) (apply_3 true c n f f q 0 hq 0 0 (take_no true c hc n hn f hI q fun h => absurd h hq1)))
          · exact old (do_out3b own c n hn64 f q m ra rb h0 h1)
        · exact old (do_out3a own c n hn64 f q m ra rb h0)
      · by_cases k4 : kd = 4
        · subst k4
          by_cases h0 : 0 ≤ q
          · by_cases h1 : q < 4294967296
            · obtain ⟨q, rfl⟩ : ∃ i : Nat, q = i := ⟨q.toNat, by omega⟩
              have hq : q < 4294967296 := by omega
              by_cases hqn : q < n
              · rcases hI q hqn with e | ⟨a, b, e, ha, hs, hne, hb⟩ | ⟨a, e, p1, p2, p3⟩ | e
                · exact old (do_old4 own c n hn64 f q m ra rb 0 0 hq (rgive_kind n hn64 f q 0 0 0 hqn (rL_at hqn e) (by omega)) (apply_4 true c n f f q 0 hq 0 0 (give_k0 true c n hn64 f q 0 0 (at_0 true n hn64 f q hqn 0 (by omega) e))))
                · exact old (do_old4 own c n hn64 f q m ra rb 0 0 hq (rgive_kind n hn64 f q 1 a b hqn (rL_at hqn e) (by omega)) (apply_4 true c n f f q 0 hq 0 0 (give_k1 true c n hn64 f q a b (at_1 true n hn64 f q hqn a b (by omega) e))))
                · exact ⟨_, _, _, hI.give hqn e, .inr (do_new4 own c n hn64 f _ q m ra rb 1 0 hq (rgive_yes n hn64 f q a p2 p1 (rL_at hqn e)) (apply_4 true c n f _ q 0 hq 1 0 (give_yes true c n hn64 f q a p1 p2 (at_2 true n hn64 f q hqn a (by omega) e))))⟩
                · exact old (do_old4 own c n hn64 f q m ra rb 0 0 hq (rgive_kind n hn64 f q 3 0 0 hqn (rL_at hqn e) (by omega)) (apply_4 true c n f f q 0 hq 0 0 (give_k3 true c n hn64 f q 0 0 (at_3 true n hn64 f q hqn 0 (by omega) e))))
              · exact old (do_old4 own c n hn64 f q m ra rb 0 0 hq (rgive_out n hn64 f q (by omega)) (apply_4 true c n f f q 0 hq 0 0 (give_none true c n hn64 f q (by omega))))
            · exact old (do_out4b own c n hn64 f q m ra rb h0 h1)
          · exact old (do_out4a own c n hn64 f q m ra rb h0)
        · by_cases h0 : 0 ≤ q
          · by_cases h1 : q < 4294967296
            · exact old (do_oddc own c n hn64 f kd q m ra rb k1 k2 k3 k4 h0 h1)
            · exact old (do_oddb own c n hn64 f kd q m ra rb k1 k2 k3 k4 h0 h1)
          · exact old (do_odda own c n hn64 f kd q m ra rb k1 k2 k3 k4 h0)
abbrev AskT := Int × Int × Int × Int × Int
theorem hW_nought (n : Nat) : List.replicate (2 * n) 0 = hW n fun _ => (0, 0, 0) := by
  rw [tabW_zero, hW]
  exact tabW_congr fun i _ => by
    simp only [hw_zero]
    split <;> rfl
theorem asks_at {l : List AskT} (h : ∀ y ∈ l, okK AskK y) {k : Nat} (hk : k < l.length) : ∃ (kd q : Int) (m ra rb : Nat), l.getD k (dfl AskK) = (kd, q, (m : Int), (ra : Int), (rb : Int)) ∧ -9223372036854775808 ≤ q ∧ q ≤ 9223372036854775807 ∧ m < 18446744073709551616 := by
  obtain ⟨⟨kd, q, m, ra, rb⟩, e⟩ : ∃ y, l.getD k (dfl AskK) = y := ⟨_, rfl⟩
  have h1 := h (l.getD k (dfl AskK)) (by simp [List.getD, hk])
  rw [e] at h1
  obtain ⟨_, h2, h3, h4, h5⟩ := h1
  have h2 := wf_i64 h2
  have h3 := wf_u64 h3
  have h4 := wf_u64 h4
  have h5 := wf_u64 h5
  simp only at h2 h3 h4 h5
  refine ⟨kd, q, m.toNat, ra.toNat, rb.toNat, ?_, h2.1, h2.2, by omega⟩
  rw [e]
  simp only [Prod.mk.injEq, true_and]
  omega
/-! HeartDoes. -/
noncomputable abbrev gHd (c : Cnf) (l : List AskT) : Frm := ⟨En, 4, Tryd.f4.ntmps, [.tab false (.int .i64) c.cl, .tab false AskK l], .bl true, gones 2⟩
noncomputable abbrev hdSt (c : Cnf) (l : List AskT) (n : Nat) (f : SupF) (k : Nat) : Cfg := ⟨.none, lp Tryd.f4 0, [(2, .ptr 2 0 0), (5, .ptr 3 0 0), (6, .slice 4 0 n), (7, .slice 5 0 (2 * n)), (36, .slice 1 0 l.length), (37, .int .i64 l.length), (38, .int .i64 k)],
  hp [.tab false (.int .i64) c.cl, .tab false AskK l, cnfD c, .cells [.int .i64 c.w, .int .i64 c.s, .int .i64 c.b, .int .i64 c.t, .slice 6 0 c.cl.length], rlT n f, .tab true (.int .u64) (hW n f), .tab true (.int .i64) c.cl]⟩
theorem hd_end (c : Cnf) (hc : c.Ok) (l : List AskT) (n : Nat) (hn : (n : Int) = c.s) (f : SupF) (hI : HInv c n f) : Goods (gHd c l) (hdSt c l n f l.length) := by
  have s1 := hc.s1
  have sm := same_tri c hc n (by omega) f hI
  have hl := hW_len n f
  have hl2 := rL_len n f
  refine Goods.fin 2000 [.b false, .c (.of sm)] mixed Tryd.func4 ?_
  show Yes _
  repeat' apply And.intro
  (all_goals first | rfl | assumption | trivial | omega | (simp [-List.getD_eq_getElem?_getD] <;> omega) | (simp (disch := omega) only [w64, wu64] <;> omega) | (simp (disch := omega) [-List.getD_eq_getElem?_getD, List.getD_cons_zero, List.getD_cons_succ, kCast_self, dfl_pair, dfl_int, w64, wu64] <;> omega) | (rw [Bool.eq_iff_iff]; simp (disch := omega) [-List.getD_eq_getElem?_getD, List.getD_cons_zero, List.getD_cons_succ, kCast_self, dfl_pair, dfl_int, w64, wu64] <;> omega) | (simp_all [-List.getD_eq_getElem?_getD] <;> omega))
set_option maxHeartbeats 4000000 in
theorem hd_a (c : Cnf) (hc : c.Ok) (l : List AskT) (hll : l.length ≤ 100) (n : Nat) (hn : (n : Int) = c.s) (f f' : SupF) (hI : HInv c n f') (k : Nat) (hk : k < l.length) (kd q : Int) (m ra rb x y : Nat) (hy : l.getD k (dfl AskK) = (kd, q, (m : Int), (ra : Int), (rb : Int))) (hd : TDo false c n f kd q m ra rb 3 x y f' [rlT n f']) (ih : Goods (gHd c l) (hdSt c l n f' (k + 1))) : Goods (gHd c l) (hdSt c l n f k) := by
  have s1 := hc.s1
  have sm := same_tri c hc n (by omega) f' hI
  have hl := hW_len n f
  have hl2 := rL_len n f
  have hl3 := hW_len n f'
  have hl4 := rL_len n f'
  refine Goods.to 2000 [.b true, .c (.of hd), .s 55 (some false) true true, .k 59 (.of sm), .l, .stop] mixed (ih) (by kernel_rfl) ?_
  show Yes _
  repeat' apply And.intro
  (all_goals first | rfl | assumption | trivial | omega | (simp [-List.getD_eq_getElem?_getD, hy] <;> omega) | (simp (disch := omega) only [w64, wu64] <;> omega) | (simp (disch := omega) [-List.getD_eq_getElem?_getD, List.getD_cons_zero, List.getD_cons_succ, kCast_self, dfl_pair, dfl_int, w64, wu64, hy] <;> omega) | (rw [Bool.eq_iff_iff]; simp (disch := omega) [-List.getD_eq_getElem?_getD, List.getD_cons_zero, List.getD_cons_succ, kCast_self, dfl_pair, dfl_int, w64, wu64, hy] <;> omega) | (simp_all [-List.getD_eq_getElem?_getD] <;> omega))
set_option maxHeartbeats 4000000 in
theorem hd_b (c : Cnf) (hc : c.Ok) (l : List AskT) (hll : l.length ≤ 100) (n : Nat) (hn : (n : Int) = c.s) (f f' : SupF) (hI : HInv c n f') (k : Nat) (hk : k < l.length) (kd q : Int) (m ra rb x y : Nat) (hy : l.getD k (dfl AskK) = (kd, q, (m : Int), (ra : Int), (rb : Int))) (hd : TDo false c n f kd q m ra rb 4 x y f' [.gone, rlT n f']) (ih : Goods (gHd c l) (hdSt c l n f' (k + 1))) : Goods (gHd c l) (hdSt c l n f k) := by
  have s1 := hc.s1
  have sm := same_tri c hc n (by omega) f' hI
  have hl := hW_len n f
  have hl2 := rL_len n f
  have hl3 := hW_len n f'
  have hl4 := rL_len n f'
  refine Goods.to 2000 [.b true, .c (.of hd), .s 55 (some false) true true, .k 59 (.of sm), .l, .stop] mixed (ih) (by kernel_rfl) ?_
  show Yes _
  repeat' apply And.intro
  (all_goals first | rfl | assumption | trivial | omega | (simp [-List.getD_eq_getElem?_getD, hy] <;> omega) | (simp (disch := omega) only [w64, wu64] <;> omega) | (simp (disch := omega) [-List.getD_eq_getElem?_getD, List.getD_cons_zero, List.getD_cons_succ, kCast_self, dfl_pair, dfl_int, w64, wu64, hy] <;> omega) | (rw [Bool.eq_iff_iff]; simp (disch := omega) [-List.getD_eq_getElem?_getD, List.getD_cons_zero, List.getD_cons_succ, kCast_self, dfl_pair, dfl_int, w64, wu64, hy] <;> omega) | (simp_all [-List.getD_eq_getElem?_getD] <;> omega))
end Go.Proofs.YtdnhnglhdabkgaaDoor.E
