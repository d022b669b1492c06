/- HeartBack: the law's contract. -/
import Derived.Test.YtdnhnglhdabkgaaDoorL11r
import Derived.Test.YtdnhnglhdabkgaaDoorL11b
namespace Go.Proofs.YtdnhnglhdabkgaaDoor.E
set_option linter.unusedSimpArgs false
set_option linter.unusedVariables false
open Go
set_option maxRecDepth 100000

theorem or_ne {y z : Nat} (hy : y < 18446744073709551616) (h : y ≠ 0) : y ||| z ≠ 0 := fun e => h (bit_ext (by rw [pow64]; exact hy) (by rw [pow64]; omega) fun i _ => by
  have := congrArg (Nat.testBit · i) e
  simp only [Nat.testBit_or, Nat.zero_testBit, Bool.or_eq_false_iff] at this
  rw [Nat.zero_testBit]; exact this.1)
theorem hb_all (c : Cnf) (hc : c.Ok) (n : Nat) (hn : (n : Int) = c.s) (cl : Nat) (hcl : cl < c.cl.length) (l : List (Nat × Nat)) (hl : l.length ≤ 4096) : ∀ (rest pre : List (Nat × Nat)) (f : SupF), l = pre ++ rest → HInv c n f → KInv c n f (outOf rest) (fun _ => 0) → OneC n f cl → OutOk n rest → Goods (gHb c) (hb2 c n f (opsL l) pre.length)
  | [], pre, f, e, hI, hK, h1, _ => by
    rw [List.append_nil] at e
    subst e
    have hz : ∀ i, i < n → f i = (0, 0, 0) := fun i hi => by
      rcases h1 i hi with e | ⟨m, e⟩
      · exact e
      · rcases hK i hi with ⟨e', _⟩ | ⟨a, m', e', _, _, _, h3, _⟩ | ⟨a, e', _⟩ | ⟨e', _⟩
        · exact e'
        · exact absurd rfl h3
        · rw [e] at e'; simp at e'
        · rw [e] at e'; simp at e'
    have h := hb_end c hc n hn f hz (opsL l)
    rw [opsL_len] at h
    exact h
  | (j, y) :: r, pre, f, e, hI, hK, h1, hO => by
    have s1 := hc.s1
    have l1 := hc.l1
    obtain ⟨o1, o2, o3, o4, o5⟩ := hO
    have hOk : OutOk n ((j, y) :: r) := ⟨o1, o2, o3, o4, o5⟩
    obtain ⟨b1, b2, b3⟩ := outOf_back hOk
    have hlen : l.length = pre.length + (r.length + 1) := by rw [e]; simp
    have hget : (opsL l).getD pre.length (dfl OpK) = (((j + 1 : Nat) : Int), ((y : Nat) : Int)) := by
      have : (opsL l).getD pre.length (0, 0) = (((j + 1 : Nat) : Int), ((y : Nat) : Int)) := by
        rw [e]; simp [opsL, List.getD]
      exact this
    have nx : ∀ f', HInv c n f' → KInv c n f' (outOf r) (fun _ => 0) → OneC n f' cl → Goods (gHb c) (hb2 c n f' (opsL l) (pre.length + 1)) := fun f' hI' hK' h1' => by
      have := hb_all c hc n hn cl hcl l hl r (pre ++ [(j, y)]) f' (by rw [e]; simp) hI' hK' h1' o5
      rwa [List.length_append] at this
    have one : outOf ((j, y) :: r) j ≠ 0 := by
      simp only [outOf, if_true]; exact or_ne o3 o2
    rcases hK j o1 with ⟨_, q, _⟩ | ⟨a, b, e1, ha, q1, q2, q3, q4, q5, q6⟩ | ⟨a, _, q, _⟩ | ⟨_, q, _⟩
    · exact absurd q one
    · have hcla : a = cl := by
        rcases h1 j o1 with e2 | ⟨m, e2⟩
        · rw [e1] at e2; simp at e2
        · rw [e1] at e2
          simp only [Prod.mk.injEq, true_and] at e2
          exact e2.1
      subst hcla
      have hat := at_1 true n (by omega) f j o1 a b (by omega) e1
      obtain ⟨g1, g2, g3, g4, g5, g6⟩ := keep_back q5 q4 (allN_lt c a) o3 q1 q2 b2
      rw [b1] at g3 g4 g5 g6
      by_cases heq : b ||| y = allN c a
      · have hK' := hK.upd (i := j) (s := (0, 0, 0)) (x := outOf r j) (y := 0) (.free rfl (g3 heq) rfl) rfl
        rw [b3] at hK'
        exact hb_back c hc n hn f _ (opsL l) (by rw [opsL_len]; omega) pre.length (by rw [opsL_len]; omega) j y o1 hget (flush_all true c hc n (by omega) f j a b y o1 (by omega) o3 q5 o2 ⟨g1, g2⟩ heq hat) (nx _ (hI.set (by rw [e1]; simp) (.inl rfl)) hK' (h1.set j (.inl rfl)))
      · have hbs : subM b (allN c a) := fun i _ hb => by rw [← q2, Nat.testBit_or, hb]; rfl
        have hK' := hK.upd (i := j) (s := (1, a, b ||| y)) (x := outOf r j) (y := 0) (.blk a _ rfl ha g4 g5 (fun h0 => heq (g6 h0)) (outOf_lt o5 j) (or_lt64 q5 o3) rfl) rfl
        rw [b3] at hK'
        refine hb_back c hc n hn f _ (opsL l) (by rw [opsL_len]; omega) pre.length (by rw [opsL_len]; omega) j y o1 hget (flush_some true c hc n (by omega) f j a b y o1 (by omega) o3 q5 o2 ⟨g1, g2⟩ heq hat) (nx _ (hI.set (x := (1, a, b ||| y)) (by rw [e1]; simp) (.inr ⟨a, _, rfl, ha, fun i hi h => ?_, heq, or_lt64 q5 o3⟩)) hK' (h1.set j (.inr ⟨_, rfl⟩)))
        rw [Nat.testBit_or] at h
        simp only [Bool.or_eq_true] at h
        rcases h with h | h
        · exact hbs i hi h
        · exact g1 i hi h
    · exact absurd q one
    · exact absurd q one
theorem hb_0 (c : Cnf) (hc : c.Ok) (n : Nat) (hn : (n : Int) = c.s) (cl : Nat) (hcl : cl < c.cl.length) : ∀ (j : Nat) (f : SupF) (l : List (Nat × Nat)), l.length + j = 64 * n + 1 → HInv c n f → KInv c n f (outOf l) (fun _ => 0) → OneC n f cl → OutOk n l → l.length ≤ cntN (outOf l) n → Goods (gHb c) (hb1 c cl n f (opsL l) (cntN (outOf l) n) l.length)
  | 0, f, l, hj, hI, hK, h1, hO, hle => by
    have := back_le hc hK
    omega
  | j + 1, f, l, hj, hI, hK, h1, hO, hle => by
    have s1 := hc.s1
    have l1 := hc.l1
    have hb := back_le hc hK
    have hr := refill_yes true c hc n hn f hI cl hcl
    cases hrf : refF c n f cl with
    | none =>
      rw [hrf] at hr
      obtain ⟨q1, q2⟩ := back_none hc hcl hK h1 hrf
      exact hb_turn c hc n hn cl hcl f hI (opsL l) _ q1 l.length (by omega) q2 hr (hb_all c hc n hn cl hcl l (by omega) l [] f rfl hI hK h1 hO)
    | some p =>
      obtain ⟨i, z⟩ := p
      rw [hrf] at hr
      obtain ⟨g1, g2, g3, g4, g5⟩ := hK.refill hc hI hcl hrf
      have hs := leastN_lt z c.b
      rw [← outOf_snoc i (leastN z c.b) l] at g1
      have hO' := outOk_snoc g4 g5 hs hO g2
      have hcnt : cntN (outOf (l ++ [(i, leastN z c.b)])) n = cntN (outOf l) n + (bitsL (leastN z c.b)).length := by
        rw [outOf_snoc]; exact cnt_or g4 g2
      have hpos : 1 ≤ (bitsL (leastN z c.b)).length := by
        have : (bitsL (leastN z c.b)).length ≠ 0 := fun h => g5 (bits_zero hs h)
        omega
      have ih := hb_0 c hc n hn cl hcl j _ (l ++ [(i, leastN z c.b)]) (by rw [List.length_append]; simp; omega) (refill_inv hc hI hcl hrf) g1 (h1.set i (.inr ⟨_, rfl⟩)) hO' (by rw [hcnt, List.length_append]; simp; omega)
      rw [hcnt, List.length_append, show opsL (l ++ [(i, leastN z c.b)]) = opsL l ++ [(((i + 1 : Nat) : Int), ((leastN z c.b : Nat) : Int))] by simp [opsL]] at ih
      exact hb_more c hc n hn cl hcl f _ (opsL l) _ (by rw [opsL_len]; exact hle) (by omega) l.length (by omega) i _ g4 hs hr ih
set_option maxHeartbeats 4000000 in
theorem HeartBack_tri (c : Cnf) (hcl : c.cl.length ≤ 9223372036854775807) (k : Nat) (hk : k ≤ 255) : Tri En 6 [cnfA 0 c, .int .u8 k] [.tab false (.int .i64) c.cl] (.bl true) (gones 1) := by
  refine Tri.of Tryd.func6 rfl Tryd.call6 rfl ?_
  by_cases h : c.Ok
  · have s0 := h.s0
    have s1 := h.s1
    have l0 := h.l0
    have l1 := h.l1
    obtain ⟨n, hn⟩ : ∃ n : Nat, (n : Int) = c.s := ⟨c.s.toNat, by omega⟩
    obtain ⟨cl, hcd⟩ : ∃ cl, cl = k % c.cl.length := ⟨_, rfl⟩
    have hlt : k % c.cl.length < c.cl.length := Nat.mod_lt _ (by omega)
    have ec : Int.tmod (IntKind.i64.wrap (k : Int)) (c.cl.length : Int) = (cl : Int) := by
      rw [w64 (x := (k : Int)) (by omega) (by omega), Int.tmod_eq_emod_of_nonneg (by omega), hcd]; simp
    have ec2 : IntKind.i64.wrap (Int.tmod (IntKind.i64.wrap (k : Int)) (c.cl.length : Int)) = (cl : Int) := by rw [ec, w64 (by omega) (by omega)]
    have e1 : IntKind.i64.wrap (IntKind.i64.wrap (64 * c.s) + 1) = ((64 * n + 1 : Nat) : Int) := by rw [w64 (x := 64 * c.s) (by omega) (by omega), w64 (by omega) (by omega)]; omega
    have cz : cntN (outOf []) n = 0 := by
      have := cnt_le (o := outOf []) (z := 0) n fun i _ => by show (bitsL 0).length ≤ 0; rw [L_zero]; simp
      omega
    have i0 := hb_0 c h n hn cl (by omega) (64 * n + 1) (fun _ => (0, 0, 0)) [] (by simp) (HInv.zero c n) (KInv.zero c n) (fun i _ => .inl rfl) trivial (by simp)
    rw [cz] at i0
    have h1 := heart_new false c l1
    have h3 := heart_words true c h n hn
    have hw := hW_nought n
    have ih := Goods.nilTmp (tp := [(2, .ptr 1 0 0), (5, .ptr 2 0 0), (6, .int .i64 cl), (7, .slice 3 0 (2 * n))]) (tq := [(9, .int .i64 ((0 : Nat) : Int)), (32, .int .i64 (64 * n + 1 : Nat)), (33, .int .i64 ((0 : Nat) : Int))])
      (os := [.tab false (.int .i64) c.cl, cnfD c, hcelb 4 c, .tab true (.int .u64) (hW n fun _ => (0, 0, 0)), .tab true (.int .i64) c.cl]) OpK i0
    generalize hW n (fun _ => (0, 0, 0)) = W at *
    refine Goods.to 2000 [.c (.of speaks_tri), .c (.of (may_yes false c h)), .k 19 (.of h1), .c (.of h3), .l, .stop] mixed (ih) (by kernel_rfl) ?_
    show Yes _
    repeat' apply And.intro
    all_goals try first | exact ec | exact ec2 | exact e1
    (all_goals first | rfl | assumption | trivial | omega | (simp [-List.getD_eq_getElem?_getD] <;> omega) | (simp (disch := omega) only [w64, wu64] <;> omega) | (simp (disch := omega) [-List.getD_eq_getElem?_getD, List.getD_cons_zero, List.getD_cons_succ, kCast_self, dfl_pair, dfl_int, w64, wu64] <;> omega) | (rw [Bool.eq_iff_iff]; simp (disch := omega) [-List.getD_eq_getElem?_getD, List.getD_cons_zero, List.getD_cons_succ, kCast_self, dfl_pair, dfl_int, w64, wu64] <;> omega) | (simp_all [-List.getD_eq_getElem?_getD] <;> omega))
  · refine Goods.fin 2000 [.c (.of speaks_tri), .c (.of (may_no false c hcl h))] mixed Tryd.func6 ?_
    show Yes _
    repeat' apply And.intro
    (all_goals first | rfl | assumption | trivial | omega | (simp [-List.getD_eq_getElem?_getD] <;> omega) | (simp (disch := omega) only [w64, wu64] <;> omega) | (simp (disch := omega) [-List.getD_eq_getElem?_getD, List.getD_cons_zero, List.getD_cons_succ, kCast_self, dfl_pair, dfl_int, w64, wu64] <;> omega) | (rw [Bool.eq_iff_iff]; simp (disch := omega) [-List.getD_eq_getElem?_getD, List.getD_cons_zero, List.getD_cons_succ, kCast_self, dfl_pair, dfl_int, w64, wu64] <;> omega) | (simp_all [-List.getD_eq_getElem?_getD] <;> omega))
theorem HeartBack_law (d : dats ([(true, (.pair (.int .i64) (.pair (.int .i64) (.pair (.int .i64) (.pair (.int .i64) (.pair (.slice (.int .i64)) .unit)))))), (false, (.int .u8))] : List (Bool × Sh))) (hd : datsOk ([(true, (.pair (.int .i64) (.pair (.int .i64) (.pair (.int .i64) (.pair (.int .i64) (.pair (.slice (.int .i64)) .unit)))))), (false, (.int .u8))] : List (Bool × Sh)) d) : Tri En 6 (argsOf ([(true, (.pair (.int .i64) (.pair (.int .i64) (.pair (.int .i64) (.pair (.int .i64) (.pair (.slice (.int .i64)) .unit)))))), (false, (.int .u8))] : List (Bool × Sh)) d 0) (objsOf ([(true, (.pair (.int .i64) (.pair (.int .i64) (.pair (.int .i64) (.pair (.int .i64) (.pair (.slice (.int .i64)) .unit)))))), (false, (.int .u8))] : List (Bool × Sh)) d) (.bl true) (gones (cnts ([(true, (.pair (.int .i64) (.pair (.int .i64) (.pair (.int .i64) (.pair (.int .i64) (.pair (.slice (.int .i64)) .unit)))))), (false, (.int .u8))] : List (Bool × Sh)))) := by
  obtain ⟨⟨w, s, b, t, cl, _⟩, k, _⟩ := d
  obtain ⟨⟨h0, h1, h2, h3, ⟨h4, _⟩, _⟩, h5, _⟩ := hd
  obtain ⟨k, rfl, hk⟩ := wf_u8 h5
  exact HeartBack_tri ⟨w, s, b, t, cl⟩ (maxLen_le h4) k hk
end Go.Proofs.YtdnhnglhdabkgaaDoor.E
