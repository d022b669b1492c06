/- HeartRuns: the law's contract. -/
import Derived.Test.YtdnhnglhdabkgaaDoorL11i
import Derived.Test.YtdnhnglhdabkgaaDoorL11b
namespace Go.Proofs.YtdnhnglhdabkgaaDoor.E
set_option linter.unusedSimpArgs false
set_option linter.unusedVariables false
open Go
set_option maxRecDepth 100000

theorem hr_up (c : Cnf) (hc : c.Ok) (xs : List Int) (n : Nat) (hn : (n : Int) = c.s) (l : List Nat) (hl : ∀ a ∈ l, 1 ≤ a) (hll : l.length ≤ 100) (hsum : l.sum ≤ n) : ∀ (rest pre : List Nat), l = pre ++ rest → Goods (gHr c xs) (hrS2 c xs false n l (cov pre.sum rest) pre.length)
  | [], pre, e => by
    rw [List.append_nil] at e
    subst e
    exact hr_end c hc xs false n hn l
  | a :: r, pre, e => by
    have s1 := hc.s1
    have ha : 1 ≤ a := hl a (by rw [e]; simp)
    have hr : ∀ x ∈ r, 1 ≤ x := fun x hx => hl x (by rw [e]; simp [hx])
    have hs : l.sum = pre.sum + (a + r.sum) := by rw [e]; simp
    have hlen : l.length = pre.length + (r.length + 1) := by rw [e]; simp
    have ih := hr_up c hc xs n hn l hl hll hsum r (pre ++ [a]) (by rw [e]; simp)
    rw [List.sum_append, List.sum_cons, List.sum_nil, Nat.add_zero, List.length_append] at ih
    have hy : (starts 0 l).getD pre.length (dfl (.int .i64)) = ((pre.sum : Nat) : Int) := by
      have h := starts_at l 0 pre.length (by omega)
      rw [e, List.take_left, Nat.zero_add] at h
      rw [e]; exact h
    have g1 := give_yes true c n (by omega) (cov pre.sum (a :: r)) pre.sum a ha (by omega) (at_2 true n (by omega) _ _ (by omega) a (by omega) (cov_head a r pre.sum))
    rw [give_first a ha r pre.sum hr] at g1
    have g2 := give_k0 true c n (by omega) (cov (pre.sum + a) r) pre.sum 0 0 (at_0 true n (by omega) _ _ (by omega) 0 (by omega) (cov_out r _ _ hr (by omega)))
    exact hr_give_up c hc xs n hn l hll _ _ pre.length (by omega) pre.sum (by omega) hy g1 g2 ih
theorem hr_dn (c : Cnf) (hc : c.Ok) (xs : List Int) (n : Nat) (hn : (n : Int) = c.s) (l : List Nat) (hl : ∀ a ∈ l, 1 ≤ a) (hll : l.length ≤ 100) (hsum : l.sum ≤ n) : ∀ (j : Nat) (pre suf : List Nat), pre.length = j → l = pre ++ suf → Goods (gHr c xs) (hrS2 c xs true n l (cov 0 pre) suf.length)
  | 0, pre, suf, hj, e => by
    have : pre = [] := List.eq_nil_of_length_eq_zero hj
    subst this
    rw [List.nil_append] at e
    subst e
    exact hr_end c hc xs true n hn l
  | j + 1, pre, suf, hj, e => by
    have s1 := hc.s1
    rcases List.eq_nil_or_concat pre with h | ⟨q, a, h⟩
    · subst h; simp at hj
    rw [List.concat_eq_append] at h
    subst h
    have ha : 1 ≤ a := hl a (by rw [e]; simp)
    have hr : ∀ x ∈ q, 1 ≤ x := fun x hx => hl x (by rw [e]; simp [hx])
    have hs : l.sum = q.sum + (a + suf.sum) := by rw [e]; simp [Nat.add_assoc]
    have hlen : l.length = q.length + (1 + suf.length) := by rw [e]; simp; omega
    have ih := hr_dn c hc xs n hn l hl hll hsum j q (a :: suf) (by simpa using hj) (by rw [e]; simp)
    rw [List.length_cons] at ih
    have hy : (starts 0 l).getD (l.length - 1 - suf.length) (dfl (.int .i64)) = ((q.sum : Nat) : Int) := by
      rw [show l.length - 1 - suf.length = q.length by omega]
      have h := starts_at l 0 q.length (by omega)
      rw [e, List.append_assoc, List.take_left, Nat.zero_add] at h
      rw [e, List.append_assoc]; exact h
    have hlast := cov_last a ha q 0 hr
    have hgl := give_last a ha q 0 hr
    rw [Nat.zero_add] at hlast hgl
    have g1 := give_yes true c n (by omega) (cov 0 (q ++ [a])) q.sum a ha (by omega) (at_2 true n (by omega) _ _ (by omega) a (by omega) hlast)
    rw [hgl] at g1
    have g2 := give_k0 true c n (by omega) (cov 0 q) q.sum 0 0 (at_0 true n (by omega) _ _ (by omega) 0 (by omega) (cov_out q _ _ hr (by omega)))
    exact hr_give_dn c hc xs n hn l hll _ _ suf.length (by omega) q.sum (by omega) hy g1 g2 ih
theorem hr_mid (c : Cnf) (hc : c.Ok) (xs : List Int) (tu : Bool) (n : Nat) (hn : (n : Int) = c.s) (l : List Nat) (hl : ∀ a ∈ l, 1 ≤ a) (hll : l.length ≤ 100) (hsum : l.sum ≤ n) : Goods (gHr c xs) (hrSt c xs tu n l xs.length) := by
  have hlen := starts_len l 0
  have ih : Goods (gHr c xs) (hrS2 c xs tu n l (cov 0 l) 0) := by
    cases tu
    · exact hr_up c hc xs n hn l hl hll hsum l [] rfl
    · exact hr_dn c hc xs n hn l hl hll hsum l.length l [] rfl (by simp)
  unfold hrSt
  unfold hrS2 at ih
  generalize starts 0 l = S at *
  generalize hW n (cov 0 l) = W at *
  generalize l.sum = t at *
  refine Goods.to 2000 [.b false, .l, .stop] mixed (ih) (by kernel_rfl) ?_
  show Yes _
  repeat' apply And.intro
  (all_goals first | rfl | assumption | trivial | omega | (simp [-List.getD_eq_getElem?_getD] <;> omega) | (simp (disch := omega) only [w64, wu64] <;> omega) | (simp (disch := omega) [-List.getD_eq_getElem?_getD, List.getD_cons_zero, List.getD_cons_succ, kCast_self, dfl_pair, dfl_int, w64, wu64] <;> omega) | (rw [Bool.eq_iff_iff]; simp (disch := omega) [-List.getD_eq_getElem?_getD, List.getD_cons_zero, List.getD_cons_succ, kCast_self, dfl_pair, dfl_int, w64, wu64] <;> omega) | (simp_all [-List.getD_eq_getElem?_getD] <;> omega))
theorem hr_0 (c : Cnf) (hc : c.Ok) (xs : List Int) (hx : xs.length ≤ 100) (hok : ∀ k, k < xs.length → ∃ y : Nat, xs.getD k (dfl (.int .u8)) = (y : Int) ∧ y ≤ 255) (tu : Bool) (n : Nat) (hn : (n : Int) = c.s) : ∀ (j k : Nat) (l : List Nat), k + j = xs.length → (∀ a ∈ l, 1 ≤ a) → l.length ≤ k → l.sum ≤ n → HInv c n (cov 0 l) → Goods (gHr c xs) (hrSt c xs tu n l k)
  | 0, k, l, hk, hl, hll, hsum, hI => by
    obtain rfl : k = xs.length := by omega
    exact hr_mid c hc xs tu n hn l hl (by omega) hsum
  | j + 1, k, l, hk, hl, hll, hsum, hI => by
    have s0 := hc.s0
    have s1 := hc.s1
    obtain ⟨y, hy, hy2⟩ := hok k (by omega)
    obtain ⟨q, hqd⟩ : ∃ q, q = 1 + y % n := ⟨_, rfl⟩
    have hmod : y % n < n := Nat.mod_lt _ (by omega)
    have hq : IntKind.i64.wrap (1 + Int.tmod (IntKind.i64.wrap (y : Int)) c.s) = (q : Int) := by
      rw [w64 (x := (y : Int)) (by omega) (by omega), ← hn, show Int.tmod (y : Int) (n : Int) = ((y % n : Nat) : Int) by rw [Int.tmod_eq_emod_of_nonneg (by omega)]; simp, w64 (by omega) (by omega), hqd]; omega
    by_cases hfit : l.sum + q ≤ n
    · have hI' : HInv c n (cov 0 (l ++ [q])) := by
        have hs := cov_snoc q (by omega) l 0 hl
        rw [Nat.zero_add] at hs
        rw [hs]
        exact hI.run (by omega) hfit ((cov_row (n := n) (q := q) (by omega) l hl).1 hfit).2
      exact hr_in c hc xs hx tu n hn l hl (by omega) hI k (by omega) y q hy hq (by omega) (by omega) hfit (hr_0 c hc xs hx hok tu n hn j (k + 1) (l ++ [q]) (by omega) (fun a ha => by
        rcases List.mem_append.1 ha with h | h
        · exact hl a h
        · have : a = q := by simpa using h
          omega) (by rw [List.length_append]; simp; omega) (by rw [List.sum_append]; simp; omega) hI')
    · exact hr_out c hc xs hx tu n hn l hl hsum hI k (by omega) y q hy hq (by omega) (by omega) hfit (hr_0 c hc xs hx hok tu n hn j (k + 1) l (by omega) hl (by omega) hsum hI)
set_option maxHeartbeats 4000000 in
theorem HeartRuns_tri (c : Cnf) (hcl : c.cl.length ≤ 9223372036854775807) (xs : List Int) (hxl : xs.length ≤ 9223372036854775807) (hok : ∀ k, k < xs.length → ∃ y : Nat, xs.getD k (dfl (.int .u8)) = (y : Int) ∧ y ≤ 255) (tu : Bool) : Tri En 3 [cnfA 0 c, .slice 1 0 xs.length, .bool tu] [.tab false (.int .i64) c.cl, .tab false (.int .u8) xs] (.bl true) (gones 2) := by
  refine Tri.of Tryd.func3 rfl Tryd.call3 rfl ?_
  by_cases h : c.Ok
  · by_cases hl : xs.length ≤ 100
    · have s0 := h.s0
      have s1 := h.s1
      have l1 := h.l1
      obtain ⟨n, hn⟩ : ∃ n : Nat, (n : Int) = c.s := ⟨c.s.toNat, by omega⟩
      have h1 := heart_new false c l1
      have h3 := heart_words true c h n hn
      have hw := hW_nought n
      have i0 : Goods (gHr c xs) (hrSt c xs tu n [] 0) := hr_0 c h xs hl hok tu n hn xs.length 0 [] (by omega) (by simp) (by simp) (by simp) (HInv.zero c n)
      have ih := Goods.nilTmp (tp := [(2, .bool tu), (3, .ptr 2 0 0), (7, .ptr 3 0 0), (8, .int .i64 ((0 : Nat) : Int)), (9, .slice 4 0 (2 * n))]) (tq := [(32, .slice 1 0 xs.length), (33, .int .i64 xs.length), (34, .int .i64 ((0 : Nat) : Int))])
        (os := [.tab false (.int .i64) c.cl, .tab false (.int .u8) xs, cnfD c, hcell 5 c, .tab true (.int .u64) (hW n fun _ => (0, 0, 0)), .tab true (.int .i64) c.cl]) (.int .i64) i0
      generalize hW n (fun _ => (0, 0, 0)) = W at *
      refine Goods.to 2000 [.c (.of speaks_tri), .c (.of (may_yes false c h)), .b false, .c (.of h1), .c (.of h3), .l, .stop] mixed (ih) (by kernel_rfl) ?_
      show Yes _
      repeat' apply And.intro
      (all_goals first | rfl | assumption | trivial | omega | (simp [-List.getD_eq_getElem?_getD] <;> omega) | (simp (disch := omega) only [w64, wu64] <;> omega) | (simp (disch := omega) [-List.getD_eq_getElem?_getD, List.getD_cons_zero, List.getD_cons_succ, kCast_self, dfl_pair, dfl_int, w64, wu64] <;> omega) | (rw [Bool.eq_iff_iff]; simp (disch := omega) [-List.getD_eq_getElem?_getD, List.getD_cons_zero, List.getD_cons_succ, kCast_self, dfl_pair, dfl_int, w64, wu64] <;> omega) | (simp_all [-List.getD_eq_getElem?_getD] <;> omega))
    · refine Goods.fin 2000 [.c (.of speaks_tri), .c (.of (may_yes false c h)), .b true] mixed Tryd.func3 ?_
      show Yes _
      repeat' apply And.intro
      (all_goals first | rfl | assumption | trivial | omega | (simp [-List.getD_eq_getElem?_getD] <;> omega) | (simp (disch := omega) only [w64, wu64] <;> omega) | (simp (disch := omega) [-List.getD_eq_getElem?_getD, List.getD_cons_zero, List.getD_cons_succ, kCast_self, dfl_pair, dfl_int, w64, wu64] <;> omega) | (rw [Bool.eq_iff_iff]; simp (disch := omega) [-List.getD_eq_getElem?_getD, List.getD_cons_zero, List.getD_cons_succ, kCast_self, dfl_pair, dfl_int, w64, wu64] <;> omega) | (simp_all [-List.getD_eq_getElem?_getD] <;> omega))
  · refine Goods.fin 2000 [.c (.of speaks_tri), .c (.of (may_no false c hcl h))] mixed Tryd.func3 ?_
    show Yes _
    repeat' apply And.intro
    (all_goals first | rfl | assumption | trivial | omega | (simp [-List.getD_eq_getElem?_getD] <;> omega) | (simp (disch := omega) only [w64, wu64] <;> omega) | (simp (disch := omega) [-List.getD_eq_getElem?_getD, List.getD_cons_zero, List.getD_cons_succ, kCast_self, dfl_pair, dfl_int, w64, wu64] <;> omega) | (rw [Bool.eq_iff_iff]; simp (disch := omega) [-List.getD_eq_getElem?_getD, List.getD_cons_zero, List.getD_cons_succ, kCast_self, dfl_pair, dfl_int, w64, wu64] <;> omega) | (simp_all [-List.getD_eq_getElem?_getD] <;> omega))
theorem u8s_at {xs : List Int} (h : ∀ y ∈ xs, okK (.int .u8) y) : ∀ k, k < xs.length → ∃ y : Nat, xs.getD k (dfl (.int .u8)) = (y : Int) ∧ y ≤ 255 := fun k hk => wf_u8 (h (xs.getD k (dfl (.int .u8))) (by simp [List.getD, hk]))
theorem HeartRuns_law (d : dats ([(true, (.pair (.int .i64) (.pair (.int .i64) (.pair (.int .i64) (.pair (.int .i64) (.pair (.slice (.int .i64)) .unit)))))), (false, (.slice (.int .u8))), (false, .bool)] : List (Bool × Sh))) (hd : datsOk ([(true, (.pair (.int .i64) (.pair (.int .i64) (.pair (.int .i64) (.pair (.int .i64) (.pair (.slice (.int .i64)) .unit)))))), (false, (.slice (.int .u8))), (false, .bool)] : List (Bool × Sh)) d) : Tri En 3 (argsOf ([(true, (.pair (.int .i64) (.pair (.int .i64) (.pair (.int .i64) (.pair (.int .i64) (.pair (.slice (.int .i64)) .unit)))))), (false, (.slice (.int .u8))), (false, .bool)] : List (Bool × Sh)) d 0) (objsOf ([(true, (.pair (.int .i64) (.pair (.int .i64) (.pair (.int .i64) (.pair (.int .i64) (.pair (.slice (.int .i64)) .unit)))))), (false, (.slice (.int .u8))), (false, .bool)] : List (Bool × Sh)) d) (.bl true) (gones (cnts ([(true, (.pair (.int .i64) (.pair (.int .i64) (.pair (.int .i64) (.pair (.int .i64) (.pair (.slice (.int .i64)) .unit)))))), (false, (.slice (.int .u8))), (false, .bool)] : List (Bool × Sh)))) := by
  obtain ⟨⟨w, s, b, t, cl, _⟩, xs, tu, _⟩ := d
  obtain ⟨⟨h0, h1, h2, h3, ⟨h4, _⟩, _⟩, ⟨h6, h7⟩, h8, _⟩ := hd
  exact HeartRuns_tri ⟨w, s, b, t, cl⟩ (maxLen_le h4) xs (maxLen_le h6) (u8s_at h7) tu
end Go.Proofs.YtdnhnglhdabkgaaDoor.E
