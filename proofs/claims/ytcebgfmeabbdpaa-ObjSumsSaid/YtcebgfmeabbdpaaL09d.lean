/- ObjSums: the law's contract. -/
import Derived.Test.YtcebgfmeabbdpaaL09c
namespace Go.Proofs.Ytcebgfmeabbdpaa.E
open Go
set_option maxRecDepth 100000

theorem runO_at {σ : Type} (f : σ → Int × Int → σ × (Int × Int)) : ∀ (l : List (Int × Int)) (s : σ) (k : Nat), k < l.length → (runO f s l).2.getD k (0, 0) = (f (runO f s (l.take k)).1 (l.getD k (0, 0))).2
  | [], _, _, h => absurd h (Nat.not_lt_zero _)
  | o :: l, s, 0, _ => rfl
  | o :: l, s, k + 1, h => by
    have := runO_at f l (f s o).1 k (by simpa using h)
    simpa [runO] using this
/-- The counter's sum. -/
def sumA (l : List (Int × Int)) : Int := (l.map (·.1)).sum
theorem wu_eq (x : Int) : IntKind.u64.wrap x = x % 18446744073709551616 := rfl
theorem cnt_sum : ∀ (l : List (Int × Int)) (n : Int), 0 ≤ n → n ≤ 18446744073709551615 → (runO cntF n l).1 = IntKind.u64.wrap (n + sumA l)
  | [], n, h, h' => by simp only [runO, sumA, wu_eq, List.map_nil, List.sum_nil]; omega
  | o :: l, n, h, h' => by
    have := cnt_sum l (IntKind.u64.wrap (n + o.1)) (by rw [wu_eq]; omega) (by rw [wu_eq]; omega)
    simp only [runO, cntF] at this ⊢
    rw [show runO cntF = runO (fun (n : Int) (o : Int × Int) => (IntKind.u64.wrap (n + o.1), (n, IntKind.u64.wrap (n + o.1)))) from rfl] at this ⊢
    rw [this]
    simp only [sumA, List.map_cons, List.sum_cons, wu_eq]
    omega
theorem cnt_rev (l : List (Int × Int)) : (runO cntF 0 l.reverse).1 = (runO cntF 0 l).1 := by
  rw [cnt_sum _ _ (by omega) (by omega), cnt_sum _ _ (by omega) (by omega)]
  have : sumA l.reverse = sumA l := by unfold sumA; rw [List.map_reverse, List.sum_reverse]
  rw [this]
theorem cnt_in (l : List (Int × Int)) (k : Nat) : 0 ≤ (runO cntF 0 (l.take k)).1 ∧ (runO cntF 0 (l.take k)).1 ≤ 18446744073709551615 := by
  rw [cnt_sum _ _ (by omega) (by omega), wu_eq]; omega
theorem rev_take (l : List (Int × Int)) (k : Nat) (h : k < l.length) : l.reverse.take (k + 1) = l.reverse.take k ++ [l.getD (l.length - 1 - k) (0, 0)] := by
  rw [List.take_succ_eq_append_getElem (by simpa using h)]
  simp [List.getD, List.getElem_reverse, show l.length - 1 - k < l.length by omega]

noncomputable abbrev gSums (l : List (Int × Int)) : Frm := ⟨En, 7, Try.f7.ntmps, [.tab false OpK l], .bl true, gones 1⟩
theorem sums_1 (l b : List (Int × Int)) (hl : l.length ≤ 1000) (hb : b.length = l.length) (hol : ∀ o ∈ l, Op64 o) (hob : ∀ o ∈ b, Op64 o) : ∀ (j k : Nat), k + j = l.length → Goods (gSums l) ⟨.none, lp Try.f7 1,
    [(0, .slice 0 0 l.length), (3, .slice 1 0 l.length), (5, .slice 2 0 l.length), (7, .slice 3 0 l.length), (78, .int .i64 l.length), (79, .int .i64 k)],
    hp [.tab false OpK l, .tab true OpK b, .tab true OpK (runO cntF 0 l).2, .tab true OpK (runO cntF 0 b).2]⟩
  | 0, k, hk => by
    refine Goods.fin 2000 [.b false] mixed Try.func7 ?_
    show Yes _
    repeat' apply And.intro
    (all_goals first | rfl | assumption | trivial | omega | (simp [-List.getD_eq_getElem?_getD] <;> omega) | (simp (disch := omega) only [w64, wu64] <;> omega) | (simp (disch := omega) [-List.getD_eq_getElem?_getD, List.getD_cons_zero, List.getD_cons_succ, kCast_self, dfl_pair, dfl_int, w64, wu64] <;> omega) | (rw [Bool.eq_iff_iff]; simp (disch := omega) [-List.getD_eq_getElem?_getD, List.getD_cons_zero, List.getD_cons_succ, kCast_self, dfl_pair, dfl_int, w64, wu64] <;> omega) | (simp_all [-List.getD_eq_getElem?_getD] <;> omega))
  | j + 1, k, hk => by
    have ih := sums_1 l b hl hb hol hob j (k + 1) (by omega)
    have a1 := runO_len cntF l 0
    have a2 := runO_len cntF b 0
    have g1 : (runO cntF 0 l).2.getD k (0, 0) = ((runO cntF 0 (l.take k)).1, IntKind.u64.wrap ((runO cntF 0 (l.take k)).1 + (l.getD k (0, 0)).1)) := runO_at cntF l 0 k (by omega)
    have g2 : (runO cntF 0 b).2.getD k (0, 0) = ((runO cntF 0 (b.take k)).1, IntKind.u64.wrap ((runO cntF 0 (b.take k)).1 + (b.getD k (0, 0)).1)) := runO_at cntF b 0 k (by omega)
    obtain ⟨x1, x2⟩ := (hol (l.getD k (0, 0)) (by simp only [List.getD]; rw [List.getElem?_eq_getElem (by omega)]; exact List.getElem_mem _)).1
    obtain ⟨y1, y2⟩ := (hob (b.getD k (0, 0)) (by simp only [List.getD]; rw [List.getElem?_eq_getElem (by omega)]; exact List.getElem_mem _)).1
    obtain ⟨n1, n2⟩ := cnt_in l k
    obtain ⟨m1, m2⟩ := cnt_in b k
    have e1 : IntKind.u64.wrap (IntKind.u64.wrap ((runO cntF 0 (l.take k)).1 + (l.getD k (0, 0)).1) - (runO cntF 0 (l.take k)).1) = (l.getD k (0, 0)).1 := by simp only [wu_eq]; omega
    have e2 : IntKind.u64.wrap (IntKind.u64.wrap ((runO cntF 0 (b.take k)).1 + (b.getD k (0, 0)).1) - (runO cntF 0 (b.take k)).1) = (b.getD k (0, 0)).1 := by simp only [wu_eq]; omega
    by_cases h0 : 0 < k
    · have g3 : (runO cntF 0 l).2.getD (k - 1) (0, 0) = ((runO cntF 0 (l.take (k - 1))).1, IntKind.u64.wrap ((runO cntF 0 (l.take (k - 1))).1 + (l.getD (k - 1) (0, 0)).1)) := runO_at cntF l 0 (k - 1) (by omega)
      have g4 := runO_take cntF 0 l (k - 1) (by omega)
      rw [show k - 1 + 1 = k by omega] at g4
      have e3 : ((k : Int) - 1).toNat = k - 1 := by omega
      have e4 : (runO cntF 0 (l.take k)).1 = IntKind.u64.wrap ((runO cntF 0 (l.take (k - 1))).1 + (l.getD (k - 1) (0, 0)).1) := by rw [g4]; rfl
      refine Goods.to 2000 [.b true, .s 98 (some false) true true, .s 116 (some false) true true, .s 120 (some true) true true, .s 133 (some false) true true, .l, .stop] mixed (ih) (by kernel_rfl) ?_
      show Yes _
      repeat' apply And.intro
      (all_goals first | rfl | assumption | trivial | omega | (simp [-List.getD_eq_getElem?_getD, g1, g2, g3, e1, e2, e3, ← e4] <;> omega) | (simp (disch := omega) only [w64, wu64] <;> omega) | (simp (disch := omega) [-List.getD_eq_getElem?_getD, List.getD_cons_zero, List.getD_cons_succ, kCast_self, dfl_pair, dfl_int, w64, wu64, g1, g2, g3, e1, e2, e3, ← e4] <;> omega) | (rw [Bool.eq_iff_iff]; simp (disch := omega) [-List.getD_eq_getElem?_getD, List.getD_cons_zero, List.getD_cons_succ, kCast_self, dfl_pair, dfl_int, w64, wu64, g1, g2, g3, e1, e2, e3, ← e4] <;> omega) | (simp_all [-List.getD_eq_getElem?_getD] <;> omega))
    · refine Goods.to 2000 [.b true, .s 98 (some false) true true, .s 116 (some false) true true, .s 120 (some false) true true, .l, .stop] mixed (ih) (by kernel_rfl) ?_
      show Yes _
      repeat' apply And.intro
      (all_goals first | rfl | assumption | trivial | omega | (simp [-List.getD_eq_getElem?_getD, g1, g2, e1, e2] <;> omega) | (simp (disch := omega) only [w64, wu64] <;> omega) | (simp (disch := omega) [-List.getD_eq_getElem?_getD, List.getD_cons_zero, List.getD_cons_succ, kCast_self, dfl_pair, dfl_int, w64, wu64, g1, g2, e1, e2] <;> omega) | (rw [Bool.eq_iff_iff]; simp (disch := omega) [-List.getD_eq_getElem?_getD, List.getD_cons_zero, List.getD_cons_succ, kCast_self, dfl_pair, dfl_int, w64, wu64, g1, g2, e1, e2] <;> omega) | (simp_all [-List.getD_eq_getElem?_getD] <;> omega))
theorem sums_0 (l : List (Int × Int)) (hl : l.length ≤ 100) (hol : ∀ o ∈ l, Op64 o) : ∀ (j k : Nat), k + j = l.length → Goods (gSums l) ⟨.none, lp Try.f7 0,
    [(0, .slice 0 0 l.length), (3, .slice 1 0 k), (16, .int .i64 l.length), (17, .int .i64 k)], hp [.tab false OpK l, .tab true OpK (l.reverse.take k)]⟩
  | 0, k, hk => by
    obtain rfl : k = l.length := by omega
    rw [show l.reverse.take l.length = l.reverse from List.take_of_length_le (by simp)]
    have h1 := replay_cnt false l (by omega)
    have h2 := replay_cnt true l.reverse (by simp; omega)
    rw [List.length_reverse] at h2
    have e := cnt_rev l
    have ih := sums_1 l l.reverse (by omega) (by simp) hol (fun o ho => hol o (List.mem_reverse.1 ho)) l.length 0 (by omega)
    refine Goods.to 2000 [.b false, .c (.of h1), .c (.of h2), .s 50 (some false) true true, .s 56 (some false) true true, .s 61 (some false) true true, .s 66 (some false) true true, .s 75 (some false) true true, .l, .stop] mixed (ih) (by kernel_rfl) ?_
    show Yes _
    repeat' apply And.intro
    (all_goals first | rfl | assumption | trivial | omega | (simp [-List.getD_eq_getElem?_getD, e] <;> omega) | (simp (disch := omega) only [w64, wu64] <;> omega) | (simp (disch := omega) [-List.getD_eq_getElem?_getD, List.getD_cons_zero, List.getD_cons_succ, kCast_self, dfl_pair, dfl_int, w64, wu64, e] <;> omega) | (rw [Bool.eq_iff_iff]; simp (disch := omega) [-List.getD_eq_getElem?_getD, List.getD_cons_zero, List.getD_cons_succ, kCast_self, dfl_pair, dfl_int, w64, wu64, e] <;> omega) | (simp_all [-List.getD_eq_getElem?_getD] <;> omega))
  | j + 1, k, hk => by
    have ih := sums_0 l hl hol j (k + 1) (by omega)
    rw [rev_take l k (by omega)] at ih
    have e : ((l.length : Int) - 1 - k).toNat = l.length - 1 - k := by omega
    refine Goods.to 2000 [.b true, .l, .stop] mixed (ih) (by kernel_rfl) ?_
    show Yes _
    repeat' apply And.intro
    (all_goals first | rfl | assumption | trivial | omega | (simp [-List.getD_eq_getElem?_getD, e] <;> omega) | (simp (disch := omega) only [w64, wu64] <;> omega) | (simp (disch := omega) [-List.getD_eq_getElem?_getD, List.getD_cons_zero, List.getD_cons_succ, kCast_self, dfl_pair, dfl_int, w64, wu64, e] <;> omega) | (rw [Bool.eq_iff_iff]; simp (disch := omega) [-List.getD_eq_getElem?_getD, List.getD_cons_zero, List.getD_cons_succ, kCast_self, dfl_pair, dfl_int, w64, wu64, e] <;> omega) | (simp_all [-List.getD_eq_getElem?_getD] <;> omega))
theorem ObjSums_tri (l : List (Int × Int)) (hol : ∀ o ∈ l, Op64 o) : Tri En 7 [.slice 0 0 l.length] [.tab false OpK l] (.bl true) (gones 1) := by
  refine Tri.of Try.func7 rfl Try.call7 rfl ?_
  by_cases hl : 100 < l.length
  · refine Goods.fin 2000 [.c (.of speaks_tri), .b true] mixed Try.func7 ?_
    show Yes _
    repeat' apply And.intro
    (all_goals first | rfl | assumption | trivial | omega | (simp [-List.getD_eq_getElem?_getD] <;> omega) | (simp (disch := omega) only [w64, wu64] <;> omega) | (simp (disch := omega) [-List.getD_eq_getElem?_getD, List.getD_cons_zero, List.getD_cons_succ, kCast_self, dfl_pair, dfl_int, w64, wu64] <;> omega) | (rw [Bool.eq_iff_iff]; simp (disch := omega) [-List.getD_eq_getElem?_getD, List.getD_cons_zero, List.getD_cons_succ, kCast_self, dfl_pair, dfl_int, w64, wu64] <;> omega) | (simp_all [-List.getD_eq_getElem?_getD] <;> omega))
  · have ih := sums_0 l (by omega) hol l.length 0 (by omega)
    refine Goods.to 2000 [.c (.of speaks_tri), .b false, .l, .stop] mixed (ih) (by kernel_rfl) ?_
    show Yes _
    repeat' apply And.intro
    (all_goals first | rfl | assumption | trivial | omega | (simp [-List.getD_eq_getElem?_getD] <;> omega) | (simp (disch := omega) only [w64, wu64] <;> omega) | (simp (disch := omega) [-List.getD_eq_getElem?_getD, List.getD_cons_zero, List.getD_cons_succ, kCast_self, dfl_pair, dfl_int, w64, wu64] <;> omega) | (rw [Bool.eq_iff_iff]; simp (disch := omega) [-List.getD_eq_getElem?_getD, List.getD_cons_zero, List.getD_cons_succ, kCast_self, dfl_pair, dfl_int, w64, wu64] <;> omega) | (simp_all [-List.getD_eq_getElem?_getD] <;> omega))
theorem ObjSums_law (d : dats ([(false, (.slice (.pair (.int .u64) (.pair (.int .u64) .unit))))] : List (Bool × Sh))) (hd : datsOk ([(false, (.slice (.pair (.int .u64) (.pair (.int .u64) .unit))))] : List (Bool × Sh)) d) : Tri En 7 (argsOf ([(false, (.slice (.pair (.int .u64) (.pair (.int .u64) .unit))))] : List (Bool × Sh)) d 0) (objsOf ([(false, (.slice (.pair (.int .u64) (.pair (.int .u64) .unit))))] : List (Bool × Sh)) d) (.bl true) (gones (cnts ([(false, (.slice (.pair (.int .u64) (.pair (.int .u64) .unit))))] : List (Bool × Sh)))) := by
  obtain ⟨l, _⟩ := d
  obtain ⟨⟨_, h1⟩, _⟩ := hd
  exact ObjSums_tri l (ops64 h1)
end Go.Proofs.Ytcebgfmeabbdpaa.E
