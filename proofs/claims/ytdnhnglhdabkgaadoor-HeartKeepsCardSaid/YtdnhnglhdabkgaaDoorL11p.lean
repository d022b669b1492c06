/- HeartKeeps: the law's contract. -/
import Derived.Test.YtdnhnglhdabkgaaDoorL11o
import Derived.Test.YtdnhnglhdabkgaaDoorL11b
namespace Go.Proofs.YtdnhnglhdabkgaaDoor.E
set_option linter.unusedSimpArgs false
set_option linter.unusedVariables false
open Go
set_option maxRecDepth 100000

theorem ks_0 (c : Cnf) (hc : c.Ok) (l : List AskT) (hll : l.length ≤ 100) (hok : ∀ y ∈ l, okK AskK y) (n : Nat) (hn : (n : Int) = c.s) : ∀ (j k : Nat) (f : SupF) (o r : Nat → Nat), k + j = l.length → HInv c n f → KInv c n f o r → Goods (gKs c l) (ksSt c l n f o r k)
  | 0, k, f, o, r, hk, hI, hK => by
    obtain rfl : k = l.length := by omega
    exact ks_last c l n f o r
  | j + 1, k, f, o, r, hk, hI, hK => by
    have s0 := hc.s0
    have s1 := hc.s1
    have l1 := hc.l1
    have hn64 : n ≤ 64 := by omega
    have hkl : k < l.length := by omega
    obtain ⟨kd, q, m, ra, rb, hy, hq1, hq2, hm⟩ := asks_at hok hkl
    have nx : ∀ f o r, HInv c n f → KInv c n f o r → Goods (gKs c l) (ksAt c l n f o r k) := fun f o r hI hK => ks_rest c hc l hll n hn f o r hK k hkl (ks_0 c hc l hll hok n hn j (k + 1) f o r (by omega) hI hK)
    have same := nx f o r hI hK
    have odd0 := apply_odd true c n f 0 0 (by omega) (by unfold oddA; omega)
    by_cases k1 : kd = 1
    · subst k1
      by_cases hin : 0 ≤ q ∧ q < 4294967296
      · obtain ⟨q, rfl⟩ : ∃ i : Nat, q = i := ⟨q.toNat, by omega⟩
        have hq : q < 4294967296 := by omega
        have h1 := ask_refill q hq
        by_cases hcl : q < c.cl.length
        · have hr := refill_yes true c hc n hn f hI q hcl
          cases hrf : refF c n f q with
          | none =>
            rw [hrf] at hr
            exact ks1_no c hc l n hn64 f o r k hkl q m ra rb _ hy h1 (apply_1 true c n f f q 0 hq 0 0 hr) same
          | some p =>
            obtain ⟨i, z⟩ := p
            rw [hrf] at hr
            obtain ⟨g1, g2, g3, g4, g5⟩ := hK.refill hc hI hcl hrf
            exact ks1_yes c hc l n hn f _ o r k hkl q m ra rb _ hy i _ g4 (leastN_lt ..) g5 g3 g2 (least_len z (by have := hc.b0; omega)) h1 (apply_1 true c n f _ q 0 hq _ _ hr) (nx _ _ _ (refill_inv hc hI hcl hrf) g1)
        · exact ks1_no c hc l n hn64 f o r k hkl q m ra rb _ hy h1 (apply_1 true c n f f q 0 hq 0 0 (refill_no true c hc n f q hcl)) same
      · exact ks1_no c hc l n hn64 f o r k hkl q m ra rb 0 hy (ask_refill_no q hin hq1 hq2) odd0 same
    · by_cases k2 : kd = 2
      · subst k2
        by_cases hin : 0 ≤ q ∧ q < 4294967296
        · obtain ⟨q, rfl⟩ : ∃ i : Nat, q = i := ⟨q.toNat, by omega⟩
          have hq : q < 4294967296 := by omega
          by_cases hqn : q < n
          · have no0 : ∀ {a : Nat}, o q = 0 → TFl true c n f q 0 (opA 0 0) f → Goods (gKs c l) (ksSt c l n f o r k) := fun {a} h0 hfl =>
              ks2_no c hc l n hn f o r k hkl q m _ 0 ra rb hy hqn hm (by omega) (by rw [h0, Nat.and_zero]) (ask_flush q 0 hq) (apply_2 true c n f f q 0 hq 0 0 hfl) same
            have hKq := hK q hqn
            rcases hKq with ⟨e, e1, e2⟩ | ⟨a, b, e, ha, h1, h2, h3, h4, h5, e2⟩ | ⟨a, e, e1, e2, h1, h2⟩ | ⟨e, e1, e2⟩
            · exact no0 (a := 0) e1 (flush_k0 true c n hn64 f q 0 0 (at_0 true n hn64 f q hqn 0 (by omega) e))
            · have hat := at_1 true n hn64 f q hqn a b (by omega) e
              obtain ⟨y, hyd⟩ : ∃ y, m &&& o q = y := ⟨_, rfl⟩
              by_cases hy0 : y = 0
              · subst hy0
                exact ks2_no c hc l n hn f o r k hkl q m _ 0 ra rb hy hqn hm h4 hyd (ask_flush q 0 hq) (apply_2 true c n f f q 0 hq 0 0 (flush_zero true c n hn64 f q a b hat)) same
              · have hylt : y < 18446744073709551616 := by rw [← hyd]; exact and_lt64 m (o q) hm
                have hsub : subM y (o q) := fun i _ hb => by
                  rw [← hyd, Nat.testBit_and] at hb
                  simp only [Bool.and_eq_true] at hb
                  exact hb.2
                obtain ⟨b1, b2, b3, b4, b5, b6⟩ := keep_back h5 h4 (allN_lt c a) hylt h1 h2 hsub
                by_cases heq : b ||| y = allN c a
                · have hfl := flush_all true c hc n hn64 f q a b y hqn (by omega) hylt h5 hy0 ⟨b1, b2⟩ heq hat
                  exact ks2_yes c hc l n hn f _ o r k hkl q m y _ y ra rb hy hqn hm h4 hyd hy0 (ask_flush q y hq) (apply_2 true c n f _ q y hq 1 0 hfl) (nx _ _ _ (hI.set (by rw [e]; simp) (.inl rfl)) (hK.upd (.free rfl (b3 heq) e2) rfl))
                · have hfl := flush_some true c hc n hn64 f q a b y hqn (by omega) hylt h5 hy0 ⟨b1, b2⟩ heq hat
                  have hbs : subM b (allN c a) := fun i _ hb => by rw [← h2, Nat.testBit_or, hb]; rfl
                  refine ks2_yes c hc l n hn f _ o r k hkl q m y _ y ra rb hy hqn hm h4 hyd hy0 (ask_flush q y hq) (apply_2 true c n f _ q y hq 1 0 hfl) (nx _ _ _ (hI.set (x := (1, a, b ||| y)) (by rw [e]; simp) (.inr ⟨a, _, rfl, ha, fun i hi h => ?_, heq, or_lt64 h5 hylt⟩)) (hK.upd (.blk a _ rfl ha b4 b5 (fun h0 => heq (b6 h0)) (andNotN_lt ..) (or_lt64 h5 hylt) e2) rfl))
                  rw [Nat.testBit_or] at h
                  simp only [Bool.or_eq_true] at h
                  rcases h with h | h
                  · exact hbs i hi h
                  · exact b1 i hi h
            · exact no0 (a := 0) e1 (flush_k2 true c n hn64 f q 0 a (at_2 true n hn64 f q hqn a (by omega) e))
            · exact no0 (a := 0) e1 (flush_k3 true c n hn64 f q 0 0 (at_3 true n hn64 f q hqn 0 (by omega) e))
          · exact ks2_outb c hc l n hn f o r k hkl q ra rb m _ m hy (by omega) (by omega) (ask_flush q m hq) (apply_2 true c n f f q m hq 0 0 (flush_none true c n hn64 f q m (by omega))) same
        · have h1 := ask_flush_no q m hin hq1 hq2
          by_cases h0 : 0 ≤ q
          · exact ks2_outb c hc l n hn f o r k hkl q ra rb m 0 0 hy h0 (by omega) h1 odd0 same
          · exact ks2_outa c hc l n hn f o r k hkl q ra rb m 0 0 hy h0 h1 odd0 same
      · by_cases k3 : kd = 3
        · subst k3
          by_cases hin : 0 ≤ q ∧ q < 4294967296
          · obtain ⟨q, rfl⟩ : ∃ i : Nat, q = i := ⟨q.toNat, by omega⟩
            have hq : q < 4294967296 := by omega
            have h1 := ask_take q hq
            by_cases hq1 : 1 ≤ q
            · rcases row_cases n f q with ⟨i, r1, r2⟩ | hno
              · have hb := r1.1
                obtain ⟨g1, g2⟩ := hK.take hq1 (by omega) r1
                exact ks3_yes c hc l n hn f _ o r k hkl q m ra rb _ hy i (by omega) hb g2 h1 (apply_3 true c n f _ q 0 hq _ _ (take_yes true c hc n hn f hI q i hq1 r1 r2)) (nx _ _ _ (hI.run hq1 r1.1 r1.2) g1)
              · exact ks3_no c hc l n hn64 f o r k hkl q m ra rb _ hy h1 (apply_3 true c n f f q 0 hq 0 0 (take_no true c hc n hn f hI q fun _ => hno)) same
            · exact ks3_no c hc l n hn64 f o r k hkl q m ra rb _ hy h1 (apply_3 true c n f f q 0 hq 0 0 (take_no true c hc n hn f hI q fun h => absurd h hq1)) same
          · exact ks3_no c hc l n hn64 f o r k hkl q m ra rb 0 hy (ask_take_no q hin hq1 hq2) odd0 same
        · by_cases k4 : kd = 4
          · subst k4
            by_cases hin : 0 ≤ q ∧ q < 4294967296
            · obtain ⟨q, rfl⟩ : ∃ i : Nat, q = i := ⟨q.toNat, by omega⟩
              have hq : q < 4294967296 := by omega
              have h1 := ask_give q hq
              by_cases hqn : q < n
              · rcases hI q hqn with e | ⟨a, b, e, ha, hs, hne, hb⟩ | ⟨a, e, p1, p2, p3⟩ | e
                · have hr0 : r q = 0 := by
                    rcases hK q hqn with ⟨_, _, x⟩ | ⟨_, _, x, _⟩ | ⟨_, x, _⟩ | ⟨x, _⟩
                    · exact x
                    all_goals rw [e] at x; simp at x
                  exact ks4_no c hc l n hn f o r k hkl q _ m ra rb hy hqn hr0 h1 (apply_4 true c n f f q 0 hq 0 0 (give_k0 true c n hn64 f q 0 0 (at_0 true n hn64 f q hqn 0 (by omega) e))) same
                · have hr0 : r q = 0 := by
                    rcases hK q hqn with ⟨x, _⟩ | ⟨_, _, x, _, _, _, _, _, _, y⟩ | ⟨_, x, _⟩ | ⟨x, _⟩
                    · rw [e] at x; simp at x
                    · exact y
                    all_goals rw [e] at x; simp at x
                  exact ks4_no c hc l n hn f o r k hkl q _ m ra rb hy hqn hr0 h1 (apply_4 true c n f f q 0 hq 0 0 (give_k1 true c n hn64 f q a b (at_1 true n hn64 f q hqn a b (by omega) e))) same
                · have hr0 : 0 < r q := by
                    rcases hK q hqn with ⟨x, _⟩ | ⟨_, _, x, _⟩ | ⟨b, x, _, y, z, _⟩ | ⟨x, _⟩
                    · rw [e] at x; simp at x
                    · rw [e] at x; simp at x
                    · omega
                    · rw [e] at x; simp at x
                  exact ks4_yes c hc l n hn f _ o r k hkl q _ m ra rb hy hqn hr0 h1 (apply_4 true c n f _ q 0 hq 1 0 (give_yes true c n hn64 f q a p1 p2 (at_2 true n hn64 f q hqn a (by omega) e))) (nx _ _ _ (hI.give hqn e) (hK.give hI hqn e))
                · have hr0 : r q = 0 := by
                    rcases hK q hqn with ⟨x, _⟩ | ⟨_, _, x, _⟩ | ⟨_, x, _⟩ | ⟨_, _, x⟩
                    · rw [e] at x; simp at x
                    · rw [e] at x; simp at x
                    · rw [e] at x; simp at x
                    · exact x
                  exact ks4_no c hc l n hn f o r k hkl q _ m ra rb hy hqn hr0 h1 (apply_4 true c n f f q 0 hq 0 0 (give_k3 true c n hn64 f q 0 0 (at_3 true n hn64 f q hqn 0 (by omega) e))) same
              · exact ks4_outb c hc l n hn f o r k hkl q m ra rb _ hy (by omega) (by omega) h1 (apply_4 true c n f f q 0 hq 0 0 (give_none true c n hn64 f q (by omega))) same
            · have h1 := ask_give_no q hin hq1 hq2
              by_cases h0 : 0 ≤ q
              · exact ks4_outb c hc l n hn f o r k hkl q m ra rb 0 hy h0 (by omega) h1 odd0 same
              · exact ks4_outa c hc l n hn f o r k hkl q m ra rb 0 hy h0 h1 odd0 same
          · exact ks_odd c hc l n f o r k hkl kd q m ra rb hy k1 k2 k3 k4 same
set_option maxHeartbeats 4000000 in
theorem HeartKeeps_tri (c : Cnf) (hcl : c.cl.length ≤ 9223372036854775807) (l : List AskT) (hll : l.length ≤ 9223372036854775807) (hok : ∀ y ∈ l, okK AskK y) : Tri En 7 [cnfA 0 c, .slice 1 0 l.length] [.tab false (.int .i64) c.cl, .tab false AskK l] (.bl true) (gones 2) := by
  refine Tri.of Tryd.func7 rfl Tryd.call7 rfl ?_
  by_cases h : c.Ok
  · by_cases hl : l.length ≤ 100
    · have s0 := h.s0
      have s1 := h.s1
      have l1 := h.l1
      obtain ⟨n, hn⟩ : ∃ n : Nat, (n : Int) = c.s := ⟨c.s.toNat, by omega⟩
      have ih := ks_0 c h l hl hok n hn l.length 0 _ _ _ (by omega) (HInv.zero c n) (KInv.zero c n)
      have h1 := heart_new false c l1
      have h3 := heart_words true c h n hn
      have hw := hW_nought n
      have hu : List.replicate n 0 = uW n fun _ => 0 := tabW_zero n
      have hu2 : List.replicate c.s.toNat 0 = uW n fun _ => 0 := by rw [← hn, Int.toNat_natCast]; exact hu
      refine Goods.to 2000 [.c (.of speaks_tri), .c (.of (may_yes false c h)), .b false, .c (.of h1), .c (.of h3), .l, .stop] mixed (ih) (by kernel_rfl) ?_
      show Yes _
      repeat' apply And.intro
      (all_goals first | rfl | assumption | trivial | omega | (simp [-List.getD_eq_getElem?_getD, hu2] <;> omega) | (simp (disch := omega) only [w64, wu64] <;> omega) | (simp (disch := omega) [-List.getD_eq_getElem?_getD, List.getD_cons_zero, List.getD_cons_succ, kCast_self, dfl_pair, dfl_int, w64, wu64, hu2] <;> omega) | (rw [Bool.eq_iff_iff]; simp (disch := omega) [-List.getD_eq_getElem?_getD, List.getD_cons_zero, List.getD_cons_succ, kCast_self, dfl_pair, dfl_int, w64, wu64, hu2] <;> omega) | (simp_all [-List.getD_eq_getElem?_getD] <;> omega))
    · refine Goods.fin 2000 [.c (.of speaks_tri), .c (.of (may_yes false c h)), .b true] mixed Tryd.func7 ?_
      show Yes _
      repeat' apply And.intro
      (all_goals first | rfl | assumption | trivial | omega | (simp [-List.getD_eq_getElem?_getD] <;> omega) | (simp (disch := omega) only [w64, wu64] <;> omega) | (simp (disch := omega) [-List.getD_eq_getElem?_getD, List.getD_cons_zero, List.getD_cons_succ, kCast_self, dfl_pair, dfl_int, w64, wu64] <;> omega) | (rw [Bool.eq_iff_iff]; simp (disch := omega) [-List.getD_eq_getElem?_getD, List.getD_cons_zero, List.getD_cons_succ, kCast_self, dfl_pair, dfl_int, w64, wu64] <;> omega) | (simp_all [-List.getD_eq_getElem?_getD] <;> omega))
  · refine Goods.fin 2000 [.c (.of speaks_tri), .c (.of (may_no false c hcl h))] mixed Tryd.func7 ?_
    show Yes _
    repeat' apply And.intro
    (all_goals first | rfl | assumption | trivial | omega | (simp [-List.getD_eq_getElem?_getD] <;> omega) | (simp (disch := omega) only [w64, wu64] <;> omega) | (simp (disch := omega) [-List.getD_eq_getElem?_getD, List.getD_cons_zero, List.getD_cons_succ, kCast_self, dfl_pair, dfl_int, w64, wu64] <;> omega) | (rw [Bool.eq_iff_iff]; simp (disch := omega) [-List.getD_eq_getElem?_getD, List.getD_cons_zero, List.getD_cons_succ, kCast_self, dfl_pair, dfl_int, w64, wu64] <;> omega) | (simp_all [-List.getD_eq_getElem?_getD] <;> omega))
theorem HeartKeeps_law (d : dats ([(true, (.pair (.int .i64) (.pair (.int .i64) (.pair (.int .i64) (.pair (.int .i64) (.pair (.slice (.int .i64)) .unit)))))), (false, (.slice (.pair (.int .i64) (.pair (.int .i64) (.pair (.int .u64) (.pair (.pair (.int .u64) (.pair (.int .u64) .unit)) .unit))))))] : List (Bool × Sh))) (hd : datsOk ([(true, (.pair (.int .i64) (.pair (.int .i64) (.pair (.int .i64) (.pair (.int .i64) (.pair (.slice (.int .i64)) .unit)))))), (false, (.slice (.pair (.int .i64) (.pair (.int .i64) (.pair (.int .u64) (.pair (.pair (.int .u64) (.pair (.int .u64) .unit)) .unit))))))] : List (Bool × Sh)) d) : Tri En 7 (argsOf ([(true, (.pair (.int .i64) (.pair (.int .i64) (.pair (.int .i64) (.pair (.int .i64) (.pair (.slice (.int .i64)) .unit)))))), (false, (.slice (.pair (.int .i64) (.pair (.int .i64) (.pair (.int .u64) (.pair (.pair (.int .u64) (.pair (.int .u64) .unit)) .unit))))))] : List (Bool × Sh)) d 0) (objsOf ([(true, (.pair (.int .i64) (.pair (.int .i64) (.pair (.int .i64) (.pair (.int .i64) (.pair (.slice (.int .i64)) .unit)))))), (false, (.slice (.pair (.int .i64) (.pair (.int .i64) (.pair (.int .u64) (.pair (.pair (.int .u64) (.pair (.int .u64) .unit)) .unit))))))] : List (Bool × Sh)) d) (.bl true) (gones (cnts ([(true, (.pair (.int .i64) (.pair (.int .i64) (.pair (.int .i64) (.pair (.int .i64) (.pair (.slice (.int .i64)) .unit)))))), (false, (.slice (.pair (.int .i64) (.pair (.int .i64) (.pair (.int .u64) (.pair (.pair (.int .u64) (.pair (.int .u64) .unit)) .unit))))))] : List (Bool × Sh)))) := by
  obtain ⟨⟨w, s, b, t, cl, _⟩, l, _⟩ := d
  obtain ⟨⟨h0, h1, h2, h3, ⟨h4, _⟩, _⟩, ⟨h6, h7⟩, _⟩ := hd
  exact HeartKeeps_tri ⟨w, s, b, t, cl⟩ (maxLen_le h4) l (maxLen_le h6) h7
end Go.Proofs.YtdnhnglhdabkgaaDoor.E
