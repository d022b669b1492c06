/- ObjStacks: the law's contract. -/
import Derived.Test.YtcebgfmeabbdpaaL09a
namespace Go.Proofs.Ytcebgfmeabbdpaa.E
open Go
set_option maxRecDepth 100000

/-- The document's stack: a row, of which so many are in it. -/
def stX (R : Nat) (s : List Int × Nat) (o : Int × Int) : (List Int × Nat) × (Int × Int) :=
  if o.1 = 1 ∧ s.2 < R then ((s.1.take s.2 ++ [o.2], s.2 + 1), (1, 0)) else if o.1 = 2 ∧ 0 < s.2 then ((s.1, s.2 - 1), (1, s.1.getD (s.2 - 1) 0)) else (s, (0, 0))
/-- It is the stack. -/
structure XRel (s : List Int × Nat) (p : List Int) : Prop where
  le : s.2 ≤ s.1.length
  eq : s.1.take s.2 = p
theorem XRel.len {s : List Int × Nat} {p : List Int} (h : XRel s p) : p.length = s.2 := by rw [← h.eq, List.length_take, Nat.min_eq_left h.le]
theorem XRel.step {s : List Int × Nat} {p : List Int} (h : XRel s p) (R : Nat) (o : Int × Int) : (stX R s o).2 = (stF R p o).2 ∧ XRel (stX R s o).1 (stF R p o).1 := by
  have hl := h.len
  have hle := h.le
  unfold stX stF
  rw [hl]
  split
  · refine ⟨rfl, ⟨?_, ?_⟩⟩
    · simp; omega
    · simp only; rw [List.take_of_length_le (by simp; omega), h.eq]
  · split
    · rename_i h2
      refine ⟨?_, ⟨by simp only; omega, ?_⟩⟩
      · simp only; rw [← h.eq]; simp only [List.getD, List.getElem?_take]; rw [if_pos (by omega)]
      · simp only; rw [← h.eq, List.take_take, Nat.min_eq_left (by omega)]
    · exact ⟨rfl, h⟩
theorem XRel.run (R : Nat) : ∀ (l : List (Int × Int)) {s : List Int × Nat} {p : List Int}, XRel s p → (runO (stX R) s l).2 = (runO (stF R) p l).2 ∧ XRel (runO (stX R) s l).1 (runO (stF R) p l).1
  | [], _, _, h => ⟨rfl, h⟩
  | o :: l, _, _, h => by
    obtain ⟨h1, h2⟩ := h.step R o
    obtain ⟨h3, h4⟩ := XRel.run R l h2
    exact ⟨by simp only [runO]; rw [h1, h3], h4⟩
noncomputable abbrev gPile (own : Bool) (r : Int) (l : List (Int × Int)) : Frm := ⟨En, 13, Try.f13.ntmps, [.tab own OpK l], .tuple [.slice 1 0 l.length, .slice 2 0 (runO (stX (roomN r)) ([], 0) l).1.2], [.tab own OpK l, .tab true OpK (runO (stX (roomN r)) ([], 0) l).2, .tab true (.int .u64) (runO (stX (roomN r)) ([], 0) l).1.1]⟩
theorem pile_0 (own : Bool) (r r' : Int) (l : List (Int × Int)) (hl : l.length ≤ 1000000) (hr : ∀ n : Nat, (n : Int) < r' ↔ n < roomN r) : ∀ (j k : Nat) (s : List Int × Nat) (az : List (Int × Int)), k + j = l.length → s.2 ≤ s.1.length → s.2 ≤ 1000000 → az.length = k → runO (stX (roomN r)) ([], 0) (l.take k) = (s, az) → Goods (gPile own r l) ⟨.none, lp Try.f13 0,
    [(0, .int .i64 r'), (1, .slice 0 0 l.length), (6, .slice 1 0 k), (7, .slice 2 0 s.2), (8, .int .i64 k)], hp [.tab own OpK l, .tab true OpK az, .tab true (.int .u64) s.1]⟩
  | 0, k, s, az, h, hs, hs2, ha, he => by
    obtain rfl : k = l.length := by omega
    rw [List.take_length] at he
    refine Goods.fin 2000 [.b false] mixed Try.func13 ?_
    show Yes _
    repeat' apply And.intro
    (all_goals first | rfl | assumption | trivial | omega | (simp [-List.getD_eq_getElem?_getD, he] <;> omega) | (simp (disch := omega) only [w64, wu64] <;> omega) | (simp (disch := omega) [-List.getD_eq_getElem?_getD, List.getD_cons_zero, List.getD_cons_succ, kCast_self, dfl_pair, dfl_int, w64, wu64, he] <;> omega) | (rw [Bool.eq_iff_iff]; simp (disch := omega) [-List.getD_eq_getElem?_getD, List.getD_cons_zero, List.getD_cons_succ, kCast_self, dfl_pair, dfl_int, w64, wu64, he] <;> omega) | (simp_all [-List.getD_eq_getElem?_getD] <;> omega))
  | j + 1, k, s, az, h, hs, hs2, ha, he => by
    have hstep := runO_take (stX (roomN r)) ([], 0) l k (by omega)
    rw [he] at hstep
    have hR := roomN_le r
    have hlt := hr s.2
    obtain ⟨xs, n⟩ := s
    simp only at hs hs2 hlt hstep ⊢
    by_cases c1 : (l.getD k (0, 0)).1 = 1
    · by_cases c2 : n < roomN r
      · have e : stX (roomN r) (xs, n) (l.getD k (0, 0)) = ((xs.take n ++ [(l.getD k (0, 0)).2], n + 1), (1, 0)) := by simp [stX, c1, c2, -List.getD_eq_getElem?_getD]
        rw [e] at hstep
        have c3 := hlt.2 c2
        have ih := pile_0 own r r' l hl hr j (k + 1) (xs.take n ++ [(l.getD k (0, 0)).2], n + 1) (az ++ [(1, 0)]) (by omega) (by simp; omega) (by simp only; omega) (by simp [ha]) hstep
        refine Goods.to 2000 [.b true, .s 29 (some true) true true, .b true, .s 37 none true false, .l, .stop] mixed (ih) (by kernel_rfl) ?_
        show Yes _
        repeat' apply And.intro
        (all_goals first | rfl | assumption | trivial | omega | (simp [-List.getD_eq_getElem?_getD, c1] <;> omega) | (simp (disch := omega) only [w64, wu64] <;> omega) | (simp (disch := omega) [-List.getD_eq_getElem?_getD, List.getD_cons_zero, List.getD_cons_succ, kCast_self, dfl_pair, dfl_int, w64, wu64, c1] <;> omega) | (rw [Bool.eq_iff_iff]; simp (disch := omega) [-List.getD_eq_getElem?_getD, List.getD_cons_zero, List.getD_cons_succ, kCast_self, dfl_pair, dfl_int, w64, wu64, c1] <;> omega) | (simp_all [-List.getD_eq_getElem?_getD] <;> omega))
      · have e : stX (roomN r) (xs, n) (l.getD k (0, 0)) = ((xs, n), (0, 0)) := by simp [stX, c1, c2, -List.getD_eq_getElem?_getD]
        rw [e] at hstep
        have c3 := fun h => c2 (hlt.1 h)
        have ih := pile_0 own r r' l hl hr j (k + 1) (xs, n) (az ++ [(0, 0)]) (by omega) hs (by simp only; omega) (by simp [ha]) hstep
        refine Goods.to 2000 [.b true, .s 29 (some true) true true, .b false, .s 51 (some false) true true, .l, .stop] mixed (ih) (by kernel_rfl) ?_
        show Yes _
        repeat' apply And.intro
        (all_goals first | rfl | assumption | trivial | omega | (simp [-List.getD_eq_getElem?_getD, c1] <;> omega) | (simp (disch := omega) only [w64, wu64] <;> omega) | (simp (disch := omega) [-List.getD_eq_getElem?_getD, List.getD_cons_zero, List.getD_cons_succ, kCast_self, dfl_pair, dfl_int, w64, wu64, c1] <;> omega) | (rw [Bool.eq_iff_iff]; simp (disch := omega) [-List.getD_eq_getElem?_getD, List.getD_cons_zero, List.getD_cons_succ, kCast_self, dfl_pair, dfl_int, w64, wu64, c1] <;> omega) | (simp_all [-List.getD_eq_getElem?_getD] <;> omega))
    · by_cases c3 : (l.getD k (0, 0)).1 = 2
      · by_cases c2 : 0 < n
        · have e : stX (roomN r) (xs, n) (l.getD k (0, 0)) = ((xs, n - 1), (1, xs.getD (n - 1) 0)) := by simp [stX, c3, c2, -List.getD_eq_getElem?_getD]
          rw [e] at hstep
          have e2 : ((n : Int) - 1).toNat = n - 1 := by omega
          have ih := pile_0 own r r' l hl hr j (k + 1) (xs, n - 1) (az ++ [(1, xs.getD (n - 1) 0)]) (by omega) (by simp only; omega) (by simp only; omega) (by simp [ha]) hstep
          refine Goods.to 2000 [.b true, .s 29 (some false) true true, .s 51 (some true) true true, .b true, .l, .stop] mixed (ih) (by kernel_rfl) ?_
          show Yes _
          repeat' apply And.intro
          (all_goals first | rfl | assumption | trivial | omega | (simp [-List.getD_eq_getElem?_getD, c1, c3, e2] <;> omega) | (simp (disch := omega) only [w64, wu64] <;> omega) | (simp (disch := omega) [-List.getD_eq_getElem?_getD, List.getD_cons_zero, List.getD_cons_succ, kCast_self, dfl_pair, dfl_int, w64, wu64, c1, c3, e2] <;> omega) | (rw [Bool.eq_iff_iff]; simp (disch := omega) [-List.getD_eq_getElem?_getD, List.getD_cons_zero, List.getD_cons_succ, kCast_self, dfl_pair, dfl_int, w64, wu64, c1, c3, e2] <;> omega) | (simp_all [-List.getD_eq_getElem?_getD] <;> omega))
        · have e : stX (roomN r) (xs, n) (l.getD k (0, 0)) = ((xs, n), (0, 0)) := by simp [stX, c3, c2, -List.getD_eq_getElem?_getD]
          rw [e] at hstep
          have ih := pile_0 own r r' l hl hr j (k + 1) (xs, n) (az ++ [(0, 0)]) (by omega) hs (by simp only; omega) (by simp [ha]) hstep
          refine Goods.to 2000 [.b true, .s 29 (some false) true true, .s 51 (some true) true true, .b false, .l, .stop] mixed (ih) (by kernel_rfl) ?_
          show Yes _
          repeat' apply And.intro
          (all_goals first | rfl | assumption | trivial | omega | (simp [-List.getD_eq_getElem?_getD, c1, c3] <;> omega) | (simp (disch := omega) only [w64, wu64] <;> omega) | (simp (disch := omega) [-List.getD_eq_getElem?_getD, List.getD_cons_zero, List.getD_cons_succ, kCast_self, dfl_pair, dfl_int, w64, wu64, c1, c3] <;> omega) | (rw [Bool.eq_iff_iff]; simp (disch := omega) [-List.getD_eq_getElem?_getD, List.getD_cons_zero, List.getD_cons_succ, kCast_self, dfl_pair, dfl_int, w64, wu64, c1, c3] <;> omega) | (simp_all [-List.getD_eq_getElem?_getD] <;> omega))
      · have e : stX (roomN r) (xs, n) (l.getD k (0, 0)) = ((xs, n), (0, 0)) := by simp [stX, c1, c3, -List.getD_eq_getElem?_getD]
        rw [e] at hstep
        have ih := pile_0 own r r' l hl hr j (k + 1) (xs, n) (az ++ [(0, 0)]) (by omega) hs (by simp only; omega) (by simp [ha]) hstep
        refine Goods.to 2000 [.b true, .s 29 (some false) true true, .s 51 (some false) true true, .l, .stop] mixed (ih) (by kernel_rfl) ?_
        show Yes _
        repeat' apply And.intro
        (all_goals first | rfl | assumption | trivial | omega | (simp [-List.getD_eq_getElem?_getD, c1, c3] <;> omega) | (simp (disch := omega) only [w64, wu64] <;> omega) | (simp (disch := omega) [-List.getD_eq_getElem?_getD, List.getD_cons_zero, List.getD_cons_succ, kCast_self, dfl_pair, dfl_int, w64, wu64, c1, c3] <;> omega) | (rw [Bool.eq_iff_iff]; simp (disch := omega) [-List.getD_eq_getElem?_getD, List.getD_cons_zero, List.getD_cons_succ, kCast_self, dfl_pair, dfl_int, w64, wu64, c1, c3] <;> omega) | (simp_all [-List.getD_eq_getElem?_getD] <;> omega))
theorem pile_tri (own : Bool) (r : Int) (l : List (Int × Int)) (hl : l.length ≤ 1000000) : Tri En 13 [.int .i64 r, .slice 0 0 l.length] [.tab own OpK l] (.tuple [.slice 1 0 l.length, .slice 2 0 (runO (stX (roomN r)) ([], 0) l).1.2]) [.tab own OpK l, .tab true OpK (runO (stX (roomN r)) ([], 0) l).2, .tab true (.int .u64) (runO (stX (roomN r)) ([], 0) l).1.1] := by
  refine Tri.of Try.func13 rfl Try.call13 rfl ?_
  by_cases c : 1000 < r
  · have ih := pile_0 own r 1000 l hl (fun n => by unfold roomN; omega) l.length 0 ([], 0) [] (by omega) (Nat.le_refl _) (by simp) rfl rfl
    refine Goods.to 2000 [.b true, .l, .stop] mixed (ih) (by kernel_rfl) ?_
    show Yes _
    repeat' apply And.intro
    (all_goals first | rfl | assumption | trivial | omega | (simp [-List.getD_eq_getElem?_getD] <;> omega) | (simp (disch := omega) only [w64, wu64] <;> omega) | (simp (disch := omega) [-List.getD_eq_getElem?_getD, List.getD_cons_zero, List.getD_cons_succ, kCast_self, dfl_pair, dfl_int, w64, wu64] <;> omega) | (rw [Bool.eq_iff_iff]; simp (disch := omega) [-List.getD_eq_getElem?_getD, List.getD_cons_zero, List.getD_cons_succ, kCast_self, dfl_pair, dfl_int, w64, wu64] <;> omega) | (simp_all [-List.getD_eq_getElem?_getD] <;> omega))
  · have ih := pile_0 own r r l hl (fun n => by unfold roomN; omega) l.length 0 ([], 0) [] (by omega) (Nat.le_refl _) (by simp) rfl rfl
    refine Goods.to 2000 [.b false, .l, .stop] mixed (ih) (by kernel_rfl) ?_
    show Yes _
    repeat' apply And.intro
    (all_goals first | rfl | assumption | trivial | omega | (simp [-List.getD_eq_getElem?_getD] <;> omega) | (simp (disch := omega) only [w64, wu64] <;> omega) | (simp (disch := omega) [-List.getD_eq_getElem?_getD, List.getD_cons_zero, List.getD_cons_succ, kCast_self, dfl_pair, dfl_int, w64, wu64] <;> omega) | (rw [Bool.eq_iff_iff]; simp (disch := omega) [-List.getD_eq_getElem?_getD, List.getD_cons_zero, List.getD_cons_succ, kCast_self, dfl_pair, dfl_int, w64, wu64] <;> omega) | (simp_all [-List.getD_eq_getElem?_getD] <;> omega))
noncomputable abbrev gStacks (l : List (Int × Int)) : Frm := ⟨En, 4, Try.f4.ntmps, [.tab false OpK l], .bl true, gones 1⟩
/-- The words behind the first one are the pile. -/
theorem stacks_0 (l : List (Int × Int)) (R : Nat) (hR : R ≤ 1000) (p xs : List Int) (n : Nat) (h : XRel (xs, n) p) (hn : n ≤ R) : ∀ (j k : Nat), k + j = R → Goods (gStacks l) ⟨.none, lp Try.f4 0,
    [(9, .slice 2 0 n), (63, .slice 1 1 R), (64, .int .i64 R), (65, .int .i64 k)], hp [.gone, .tab true (.int .u64) (stW R p), .tab true (.int .u64) xs]⟩
  | 0, k, hk => by
    refine Goods.fin 2000 [.b false] mixed Try.func4 ?_
    show Yes _
    repeat' apply And.intro
    (all_goals first | rfl | assumption | trivial | omega | (simp [-List.getD_eq_getElem?_getD] <;> omega) | (simp (disch := omega) only [w64, wu64] <;> omega) | (simp (disch := omega) [-List.getD_eq_getElem?_getD, List.getD_cons_zero, List.getD_cons_succ, kCast_self, dfl_pair, dfl_int, w64, wu64] <;> omega) | (rw [Bool.eq_iff_iff]; simp (disch := omega) [-List.getD_eq_getElem?_getD, List.getD_cons_zero, List.getD_cons_succ, kCast_self, dfl_pair, dfl_int, w64, wu64] <;> omega) | (simp_all [-List.getD_eq_getElem?_getD] <;> omega))
  | j + 1, k, hk => by
    have ih := stacks_0 l R hR p xs n h hn j (k + 1) (by omega)
    have hw := stW_at (R := R) p (i := k) (by omega)
    rw [Nat.add_comm 1 k] at hw
    have hl : (stW R p).length = 1 + R := tabW_len _ _
    have hle := h.le
    have heq := h.eq
    simp only at hle heq
    by_cases c : k < n
    · have e : p.getD k 0 = xs.getD k 0 := by rw [← heq]; simp only [List.getD, List.getElem?_take]; rw [if_pos c]
      refine Goods.to 2000 [.b true, .b true, .b false, .l, .stop] mixed (ih) (by kernel_rfl) ?_
      show Yes _
      repeat' apply And.intro
      (all_goals first | rfl | assumption | trivial | omega | (simp [-List.getD_eq_getElem?_getD, hw, e] <;> omega) | (simp (disch := omega) only [w64, wu64] <;> omega) | (simp (disch := omega) [-List.getD_eq_getElem?_getD, List.getD_cons_zero, List.getD_cons_succ, kCast_self, dfl_pair, dfl_int, w64, wu64, hw, e] <;> omega) | (rw [Bool.eq_iff_iff]; simp (disch := omega) [-List.getD_eq_getElem?_getD, List.getD_cons_zero, List.getD_cons_succ, kCast_self, dfl_pair, dfl_int, w64, wu64, hw, e] <;> omega) | (simp_all [-List.getD_eq_getElem?_getD] <;> omega))
    · have e : p.getD k 0 = 0 := by rw [← heq]; simp only [List.getD, List.getElem?_take]; rw [if_neg c]; rfl
      refine Goods.to 2000 [.b true, .b false, .b false, .l, .stop] mixed (ih) (by kernel_rfl) ?_
      show Yes _
      repeat' apply And.intro
      (all_goals first | rfl | assumption | trivial | omega | (simp [-List.getD_eq_getElem?_getD, hw, e] <;> omega) | (simp (disch := omega) only [w64, wu64] <;> omega) | (simp (disch := omega) [-List.getD_eq_getElem?_getD, List.getD_cons_zero, List.getD_cons_succ, kCast_self, dfl_pair, dfl_int, w64, wu64, hw, e] <;> omega) | (rw [Bool.eq_iff_iff]; simp (disch := omega) [-List.getD_eq_getElem?_getD, List.getD_cons_zero, List.getD_cons_succ, kCast_self, dfl_pair, dfl_int, w64, wu64, hw, e] <;> omega) | (simp_all [-List.getD_eq_getElem?_getD] <;> omega))
theorem ObjStacks_tri (r : Int) (l : List (Int × Int)) (ho : ∀ o ∈ l, Op64 o) : Tri En 4 [.int .i64 r, .slice 0 0 l.length] [.tab false OpK l] (.bl true) (gones 1) := by
  refine Tri.of Try.func4 rfl Try.call4 rfl ?_
  by_cases hl : 200 < l.length
  · refine Goods.fin 2000 [.c (.of speaks_tri), .b true] mixed Try.func4 ?_
    show Yes _
    repeat' apply And.intro
    (all_goals first | rfl | assumption | trivial | omega | (simp [-List.getD_eq_getElem?_getD] <;> omega) | (simp (disch := omega) only [w64, wu64] <;> omega) | (simp (disch := omega) [-List.getD_eq_getElem?_getD, List.getD_cons_zero, List.getD_cons_succ, kCast_self, dfl_pair, dfl_int, w64, wu64] <;> omega) | (rw [Bool.eq_iff_iff]; simp (disch := omega) [-List.getD_eq_getElem?_getD, List.getD_cons_zero, List.getD_cons_succ, kCast_self, dfl_pair, dfl_int, w64, wu64] <;> omega) | (simp_all [-List.getD_eq_getElem?_getD] <;> omega))
  · have h1 := replay_st false r l (by omega) ho
    have h2 := pile_tri false r l (by omega)
    obtain ⟨hans, hrel⟩ := XRel.run (roomN r) l (s := ([], 0)) (p := []) ⟨Nat.le_refl _, rfl⟩
    rw [hans] at h2
    have hlen := runO_len (stF (roomN r)) l []
    have h3 := same_tri true true (runO (stF (roomN r)) [] l).2 (by omega)
    rw [hlen] at h3
    have hR := roomN_le r
    have hRi := roomN_int r
    have hpl := runO_le (R := roomN r) l (p := []) (Nat.zero_le _)
    have hpn := hrel.len
    have hw0 := stW_at0 (roomN r) (runO (stF (roomN r)) [] l).1
    have hwl : (stW (roomN r) (runO (stF (roomN r)) [] l).1).length = 1 + roomN r := tabW_len _ _
    have ih := stacks_0 l (roomN r) hR (runO (stF (roomN r)) [] l).1 (runO (stX (roomN r)) ([], 0) l).1.1 (runO (stX (roomN r)) ([], 0) l).1.2 hrel (by omega) (roomN r) 0 (by omega)
    refine Goods.to 2000 [.c (.of speaks_tri), .b false, .c (.of h1), .c (.of h2), .c (.of h3), .c (.of (st_words r)), .s 42 (some false) true true, .s 51 (some false) true true, .b false, .l, .stop] mixed (ih) (by kernel_rfl) ?_
    show Yes _
    repeat' apply And.intro
    (all_goals first | rfl | assumption | trivial | omega | (simp [-List.getD_eq_getElem?_getD, hw0, hpn, ← hRi] <;> omega) | (simp (disch := omega) only [w64, wu64] <;> omega) | (simp (disch := omega) [-List.getD_eq_getElem?_getD, List.getD_cons_zero, List.getD_cons_succ, kCast_self, dfl_pair, dfl_int, w64, wu64, hw0, hpn, ← hRi] <;> omega) | (rw [Bool.eq_iff_iff]; simp (disch := omega) [-List.getD_eq_getElem?_getD, List.getD_cons_zero, List.getD_cons_succ, kCast_self, dfl_pair, dfl_int, w64, wu64, hw0, hpn, ← hRi] <;> omega) | (simp_all [-List.getD_eq_getElem?_getD] <;> omega))
theorem ops64 {l : List (Int × Int)} (h : ∀ y ∈ l, okK OpK y) : ∀ o ∈ l, Op64 o := fun o ho => ⟨wf_u64 (h o ho).1, wf_u64 (h o ho).2⟩
theorem ObjStacks_law (d : dats ([(false, (.int .i64)), (false, (.slice (.pair (.int .u64) (.pair (.int .u64) .unit))))] : List (Bool × Sh))) (hd : datsOk ([(false, (.int .i64)), (false, (.slice (.pair (.int .u64) (.pair (.int .u64) .unit))))] : List (Bool × Sh)) d) : Tri En 4 (argsOf ([(false, (.int .i64)), (false, (.slice (.pair (.int .u64) (.pair (.int .u64) .unit))))] : List (Bool × Sh)) d 0) (objsOf ([(false, (.int .i64)), (false, (.slice (.pair (.int .u64) (.pair (.int .u64) .unit))))] : List (Bool × Sh)) d) (.bl true) (gones (cnts ([(false, (.int .i64)), (false, (.slice (.pair (.int .u64) (.pair (.int .u64) .unit))))] : List (Bool × Sh)))) := by
  obtain ⟨r, l, _⟩ := d
  obtain ⟨_, ⟨_, h⟩, _⟩ := hd
  exact ObjStacks_tri r l (ops64 h)
end Go.Proofs.Ytcebgfmeabbdpaa.E
