/- Package span: intervals that lie apart; the contracts of its methods for intervals that lie one behind the other. -/
import Derived.Test.YtcicfbccdgkfhaaPcap
namespace Go.Proofs.Ytcicfbccdgkfhaa.E
set_option linter.unusedSimpArgs false
set_option linter.unusedVariables false
open Go
set_option maxRecDepth 100000

abbrev IvK : K := .pair (.int .i64) (.int .i64)
abbrev IvT := Int × Int
abbrev ivD : IvT := (0, 0)
def cmpI (a b : Int) : Int := if a < b then -1 else if b < a then 1 else 0
theorem nan_tri (a : Int) : Tri En 47 [.int .i64 a] [] (.bl false) [] := by
  refine Tri.of Try.func47 rfl Try.call47 rfl ?_
  refine Goods.fin 2000 [] mixed Try.func47 ?_
  show Yes _
  repeat' apply And.intro
  (all_goals first | rfl | assumption | trivial | omega | (simp [-List.getD_eq_getElem?_getD] <;> omega) | (simp (disch := omega) only [w64, wu64] <;> omega) | (simp (disch := omega) [-List.getD_eq_getElem?_getD, List.getD_cons_zero, List.getD_cons_succ, kCast_self, dfl_pair, dfl_int, w64, wu64] <;> omega) | (rw [Bool.eq_iff_iff]; simp (disch := omega) [-List.getD_eq_getElem?_getD, List.getD_cons_zero, List.getD_cons_succ, kCast_self, dfl_pair, dfl_int, w64, wu64] <;> omega) | (simp_all [-List.getD_eq_getElem?_getD] <;> omega))
theorem cmp_tri (a b : Int) : Tri En 44 [.int .i64 a, .int .i64 b] [] (.int .i64 (cmpI a b)) [] := by
  have h1 := nan_tri a
  have h2 := nan_tri b
  unfold cmpI
  refine Tri.of Try.func44 rfl Try.call44 rfl ?_
  by_cases k1 : a < b
  · rw [if_pos k1]
    refine Goods.fin 2000 [.c (.of h1), .c (.of h2), .b true] mixed Try.func44 ?_
    show Yes _
    repeat' apply And.intro
    (all_goals first | rfl | assumption | trivial | omega | (simp [-List.getD_eq_getElem?_getD] <;> omega) | (simp (disch := omega) only [w64, wu64] <;> omega) | (simp (disch := omega) [-List.getD_eq_getElem?_getD, List.getD_cons_zero, List.getD_cons_succ, kCast_self, dfl_pair, dfl_int, w64, wu64] <;> omega) | (rw [Bool.eq_iff_iff]; simp (disch := omega) [-List.getD_eq_getElem?_getD, List.getD_cons_zero, List.getD_cons_succ, kCast_self, dfl_pair, dfl_int, w64, wu64] <;> omega) | (simp_all [-List.getD_eq_getElem?_getD] <;> omega))
  · rw [if_neg k1]
    by_cases k2 : b < a
    · rw [if_pos k2]
      refine Goods.fin 2000 [.c (.of h1), .c (.of h2), .b false, .b true] mixed Try.func44 ?_
      show Yes _
      repeat' apply And.intro
      (all_goals first | rfl | assumption | trivial | omega | (simp [-List.getD_eq_getElem?_getD] <;> omega) | (simp (disch := omega) only [w64, wu64] <;> omega) | (simp (disch := omega) [-List.getD_eq_getElem?_getD, List.getD_cons_zero, List.getD_cons_succ, kCast_self, dfl_pair, dfl_int, w64, wu64] <;> omega) | (rw [Bool.eq_iff_iff]; simp (disch := omega) [-List.getD_eq_getElem?_getD, List.getD_cons_zero, List.getD_cons_succ, kCast_self, dfl_pair, dfl_int, w64, wu64] <;> omega) | (simp_all [-List.getD_eq_getElem?_getD] <;> omega))
    · rw [if_neg k2]
      refine Goods.fin 2000 [.c (.of h1), .c (.of h2), .b false, .b false] mixed Try.func44 ?_
      show Yes _
      repeat' apply And.intro
      (all_goals first | rfl | assumption | trivial | omega | (simp [-List.getD_eq_getElem?_getD] <;> omega) | (simp (disch := omega) only [w64, wu64] <;> omega) | (simp (disch := omega) [-List.getD_eq_getElem?_getD, List.getD_cons_zero, List.getD_cons_succ, kCast_self, dfl_pair, dfl_int, w64, wu64] <;> omega) | (rw [Bool.eq_iff_iff]; simp (disch := omega) [-List.getD_eq_getElem?_getD, List.getD_cons_zero, List.getD_cons_succ, kCast_self, dfl_pair, dfl_int, w64, wu64] <;> omega) | (simp_all [-List.getD_eq_getElem?_getD] <;> omega))
theorem fcmp_tri (x y t : Int) : Tri En 43 [.agg [.int .i64 x, .int .i64 y], .int .i64 t] [] (.int .i64 (cmpI x t)) [] := by
  have h1 := cmp_tri x t
  refine Tri.of Try.func43 rfl Try.call43 rfl ?_
  refine Goods.fin 2000 [.c (.of h1)] mixed Try.func43 ?_
  show Yes _
  repeat' apply And.intro
  (all_goals first | rfl | assumption | trivial | omega | (simp [-List.getD_eq_getElem?_getD] <;> omega) | (simp (disch := omega) only [w64, wu64] <;> omega) | (simp (disch := omega) [-List.getD_eq_getElem?_getD, List.getD_cons_zero, List.getD_cons_succ, kCast_self, dfl_pair, dfl_int, w64, wu64] <;> omega) | (rw [Bool.eq_iff_iff]; simp (disch := omega) [-List.getD_eq_getElem?_getD, List.getD_cons_zero, List.getD_cons_succ, kCast_self, dfl_pair, dfl_int, w64, wu64] <;> omega) | (simp_all [-List.getD_eq_getElem?_getD] <;> omega))
abbrev fcmpA : AV := .func (.func 43) [] []
noncomputable abbrev gBs (own : Bool) (l : List IvT) (p : Nat) (f : Bool) : Frm := ⟨En, 42, Try.f42.ntmps, [.tab own IvK l], .tuple [.int .i64 p, .bool f], [.tab own IvK l]⟩
noncomputable abbrev bsSt (own : Bool) (l : List IvT) (t : Int) (i j : Nat) : Cfg := ⟨.none, lp Try.f42 0, [(0, .slice 0 0 l.length), (1, .int .i64 t), (2, fcmpA), (8, .int .i64 l.length), (9, .int .i64 i), (10, .int .i64 j)], hp [.tab own IvK l]⟩
theorem half_e {i j : Nat} (h : i + j < 1000000) : IntKind.i64.wrap ((IntKind.u64.wrap (IntKind.i64.wrap ((i : Int) + (j : Int)))).fdiv (2 ^ min (1 : Int).toNat IntKind.u64.bits)) = (((i + j) / 2 : Nat) : Int) := by
  have e1 : IntKind.u64.wrap (IntKind.i64.wrap ((i : Int) + (j : Int))) = ((i + j : Nat) : Int) := by
    rw [w64 (by omega) (by omega), wu64 (by omega) (by omega)]; omega
  have e2 : (((i + j : Nat) : Int)).fdiv (2 ^ min (1 : Int).toNat IntKind.u64.bits) = (((i + j) / 2 : Nat) : Int) := shr_lit (i + j) 1 (by omega)
  rw [e1, e2]
  exact w64 (by omega) (by omega)
/-- The place at which an address's interval would lie; whether one begins there. -/
structure PosAt (l : List IvT) (t : Int) (p : Nat) (f : Bool) : Prop where
  le : p ≤ l.length
  small : l.length < 10000
  low : ∀ i, i < p → (l.getD i ivD).1 < t
  high : ∀ i, p ≤ i → i < l.length → t ≤ (l.getD i ivD).1
  found : f = true → p < l.length ∧ (l.getD p ivD).1 = t
  no : f = false → p < l.length → (l.getD p ivD).1 ≠ t
theorem bs_0 (own : Bool) (l : List IvT) (t : Int) (p : Nat) (f : Bool) (h : PosAt l t p f) : ∀ (k i j : Nat), j - i ≤ k → i ≤ p → p ≤ j → j ≤ l.length → Goods (gBs own l p f) (bsSt own l t i j)
  | k, i, j, hk, hi, hj, hl => by
    have hs := h.small
    by_cases hij : i < j
    · cases k with
      | zero => omega
      | succ k =>
      have he := half_e (i := i) (j := j) (by omega)
      obtain ⟨m, hm⟩ : ∃ m, m = (i + j) / 2 := ⟨_, rfl⟩
      rw [← hm] at he
      have g1 : (l.getD ((IntKind.i64.wrap ((IntKind.u64.wrap (IntKind.i64.wrap ((i : Int) + (j : Int)))).fdiv (2 ^ min (1 : Int).toNat IntKind.u64.bits))).toNat + 0) (dfl IvK)).1 = (l.getD m ivD).1 := by rw [he]; rfl
      have g2 : (l.getD ((IntKind.i64.wrap ((IntKind.u64.wrap (IntKind.i64.wrap ((i : Int) + (j : Int)))).fdiv (2 ^ min (1 : Int).toNat IntKind.u64.bits))).toNat + 0) (dfl IvK)).2 = (l.getD m ivD).2 := by rw [he]; rfl
      have g3 : IntKind.i64.wrap ((IntKind.i64.wrap ((IntKind.u64.wrap (IntKind.i64.wrap ((i : Int) + (j : Int)))).fdiv (2 ^ min (1 : Int).toNat IntKind.u64.bits))) + 1) = ((m + 1 : Nat) : Int) := by rw [he, w64 (by omega) (by omega)]; rfl
      have hc := fcmp_tri (l.getD m ivD).1 (l.getD m ivD).2 t
      by_cases hmp : m < p
      · have hlt : cmpI (l.getD m ivD).1 t = -1 := by unfold cmpI; rw [if_pos (h.low m hmp)]
        rw [hlt] at hc
        have ih := bs_0 own l t p f h k (m + 1) j (by omega) (by omega) hj hl
        refine Goods.to 2000 [.b true, .c (.of hc), .b true, .l, .stop] mixed (ih) (by kernel_rfl) ?_
        show Yes _
        repeat' apply And.intro
        all_goals try first | exact g1 | exact g2 | exact g3
        (all_goals first | rfl | assumption | trivial | omega | (simp [-List.getD_eq_getElem?_getD, he] <;> omega) | (simp (disch := omega) only [w64, wu64] <;> omega) | (simp (disch := omega) [-List.getD_eq_getElem?_getD, List.getD_cons_zero, List.getD_cons_succ, kCast_self, dfl_pair, dfl_int, w64, wu64, he] <;> omega) | (rw [Bool.eq_iff_iff]; simp (disch := omega) [-List.getD_eq_getElem?_getD, List.getD_cons_zero, List.getD_cons_succ, kCast_self, dfl_pair, dfl_int, w64, wu64, he] <;> omega) | (simp_all [-List.getD_eq_getElem?_getD] <;> omega))
      · have hge : ∃ c : Nat, cmpI (l.getD m ivD).1 t = c := by
          unfold cmpI; rw [if_neg (by have := h.high m (by omega) (by omega); omega)]
          by_cases e : t < (l.getD m ivD).1
          · exact ⟨1, by rw [if_pos e]; rfl⟩
          · exact ⟨0, by rw [if_neg e]; rfl⟩
        obtain ⟨c, hge⟩ := hge
        rw [hge] at hc
        have ih := bs_0 own l t p f h k i m (by omega) hi (by omega) (by omega)
        refine Goods.to 2000 [.b true, .c (.of hc), .b false, .l, .stop] mixed (ih) (by kernel_rfl) ?_
        show Yes _
        repeat' apply And.intro
        all_goals try first | exact g1 | exact g2 | exact g3
        (all_goals first | rfl | assumption | trivial | omega | (simp [-List.getD_eq_getElem?_getD, he] <;> omega) | (simp (disch := omega) only [w64, wu64] <;> omega) | (simp (disch := omega) [-List.getD_eq_getElem?_getD, List.getD_cons_zero, List.getD_cons_succ, kCast_self, dfl_pair, dfl_int, w64, wu64, he] <;> omega) | (rw [Bool.eq_iff_iff]; simp (disch := omega) [-List.getD_eq_getElem?_getD, List.getD_cons_zero, List.getD_cons_succ, kCast_self, dfl_pair, dfl_int, w64, wu64, he] <;> omega) | (simp_all [-List.getD_eq_getElem?_getD] <;> omega))
    · obtain rfl : i = p := by omega
      obtain rfl : j = i := by omega
      by_cases hp1 : j < l.length
      · have hc := fcmp_tri (l.getD j ivD).1 (l.getD j ivD).2 t
        cases f with
        | true =>
          have e : cmpI (l.getD j ivD).1 t = 0 := by unfold cmpI; rw [(h.found rfl).2, if_neg (by omega), if_neg (by omega)]
          rw [e] at hc
          refine Goods.fin 2000 [.b false, .s 38 (some true) true true, .c (.of hc)] mixed Try.func42 ?_
          show Yes _
          repeat' apply And.intro
          (all_goals first | rfl | assumption | trivial | omega | (simp [-List.getD_eq_getElem?_getD] <;> omega) | (simp (disch := omega) only [w64, wu64] <;> omega) | (simp (disch := omega) [-List.getD_eq_getElem?_getD, List.getD_cons_zero, List.getD_cons_succ, kCast_self, dfl_pair, dfl_int, w64, wu64] <;> omega) | (rw [Bool.eq_iff_iff]; simp (disch := omega) [-List.getD_eq_getElem?_getD, List.getD_cons_zero, List.getD_cons_succ, kCast_self, dfl_pair, dfl_int, w64, wu64] <;> omega) | (simp_all [-List.getD_eq_getElem?_getD] <;> omega))
        | false =>
          have e : cmpI (l.getD j ivD).1 t = 1 := by
            have := h.no rfl hp1
            have := h.high j (by omega) hp1
            unfold cmpI; rw [if_neg (by omega), if_pos (by omega)]
          rw [e] at hc
          refine Goods.fin 2000 [.b false, .s 38 (some true) true true, .c (.of hc)] mixed Try.func42 ?_
          show Yes _
          repeat' apply And.intro
          (all_goals first | rfl | assumption | trivial | omega | (simp [-List.getD_eq_getElem?_getD] <;> omega) | (simp (disch := omega) only [w64, wu64] <;> omega) | (simp (disch := omega) [-List.getD_eq_getElem?_getD, List.getD_cons_zero, List.getD_cons_succ, kCast_self, dfl_pair, dfl_int, w64, wu64] <;> omega) | (rw [Bool.eq_iff_iff]; simp (disch := omega) [-List.getD_eq_getElem?_getD, List.getD_cons_zero, List.getD_cons_succ, kCast_self, dfl_pair, dfl_int, w64, wu64] <;> omega) | (simp_all [-List.getD_eq_getElem?_getD] <;> omega))
      · cases f with
        | true => exact absurd (h.found rfl).1 hp1
        | false =>
          refine Goods.fin 2000 [.b false, .s 38 (some false) true true] mixed Try.func42 ?_
          show Yes _
          repeat' apply And.intro
          (all_goals first | rfl | assumption | trivial | omega | (simp [-List.getD_eq_getElem?_getD] <;> omega) | (simp (disch := omega) only [w64, wu64] <;> omega) | (simp (disch := omega) [-List.getD_eq_getElem?_getD, List.getD_cons_zero, List.getD_cons_succ, kCast_self, dfl_pair, dfl_int, w64, wu64] <;> omega) | (rw [Bool.eq_iff_iff]; simp (disch := omega) [-List.getD_eq_getElem?_getD, List.getD_cons_zero, List.getD_cons_succ, kCast_self, dfl_pair, dfl_int, w64, wu64] <;> omega) | (simp_all [-List.getD_eq_getElem?_getD] <;> omega))
theorem bs_tri (own : Bool) (l : List IvT) (t : Int) (p : Nat) (f : Bool) (h : PosAt l t p f) : Tri En 42 [.slice 0 0 l.length, .int .i64 t, fcmpA] [.tab own IvK l] (.tuple [.int .i64 p, .bool f]) [.tab own IvK l] := by
  have ih := bs_0 own l t p f h l.length 0 l.length (by omega) (by omega) h.le (by omega)
  refine Tri.of Try.func42 rfl Try.call42 rfl ?_
  refine Goods.to 2000 [.l, .stop] mixed (ih) (by kernel_rfl) ?_
  show Yes _
  repeat' apply And.intro
  (all_goals first | rfl | assumption | trivial | omega | (simp [-List.getD_eq_getElem?_getD] <;> omega) | (simp (disch := omega) only [w64, wu64] <;> omega) | (simp (disch := omega) [-List.getD_eq_getElem?_getD, List.getD_cons_zero, List.getD_cons_succ, kCast_self, dfl_pair, dfl_int, w64, wu64] <;> omega) | (rw [Bool.eq_iff_iff]; simp (disch := omega) [-List.getD_eq_getElem?_getD, List.getD_cons_zero, List.getD_cons_succ, kCast_self, dfl_pair, dfl_int, w64, wu64] <;> omega) | (simp_all [-List.getD_eq_getElem?_getD] <;> omega))
theorem find_tri (l : List IvT) (t : Int) (p : Nat) (f : Bool) (h : PosAt l t p f) : Tri En 38 [.ptr 0 0 0, .int .i64 t] [.cells [.slice 1 0 l.length], .tab true IvK l] (.tuple [.int .i64 p, .bool f]) [.cells [.slice 1 0 l.length], .tab true IvK l] := by
  have h1 := bs_tri true l t p f h
  refine Tri.of Try.func38 rfl Try.call38 rfl ?_
  refine Goods.fin 2000 [.c (.of h1)] mixed Try.func38 ?_
  show Yes _
  repeat' apply And.intro
  (all_goals first | rfl | assumption | trivial | omega | (simp [-List.getD_eq_getElem?_getD] <;> omega) | (simp (disch := omega) only [w64, wu64] <;> omega) | (simp (disch := omega) [-List.getD_eq_getElem?_getD, List.getD_cons_zero, List.getD_cons_succ, kCast_self, dfl_pair, dfl_int, w64, wu64] <;> omega) | (rw [Bool.eq_iff_iff]; simp (disch := omega) [-List.getD_eq_getElem?_getD, List.getD_cons_zero, List.getD_cons_succ, kCast_self, dfl_pair, dfl_int, w64, wu64] <;> omega) | (simp_all [-List.getD_eq_getElem?_getD] <;> omega))
/-- Intervals that lie one behind the other, from b to e. -/
def Chain (b : Int) : List IvT → Int → Prop
  | [], e => e = b
  | x :: l, e => x.1 = b ∧ 1 ≤ x.2 ∧ Chain (b + x.2) l e
theorem Chain.le : ∀ {l : List IvT} {b e : Int}, Chain b l e → b ≤ e
  | [], b, e, h => by unfold Chain at h; omega
  | x :: l, b, e, h => by have := Chain.le h.2.2; have := h.2.1; omega
theorem Chain.add : ∀ {l : List IvT} {b e n : Int}, Chain b l e → 1 ≤ n → Chain b (l ++ [(e, n)]) (e + n)
  | [], b, e, n, h, hn => by unfold Chain at h; subst h; exact ⟨rfl, hn, rfl⟩
  | x :: l, b, e, n, h, hn => ⟨h.1, h.2.1, Chain.add h.2.2 hn⟩
theorem Chain.at_ : ∀ {l : List IvT} {b e : Int}, Chain b l e → ∀ i, i < l.length → b ≤ (l.getD i ivD).1 ∧ 1 ≤ (l.getD i ivD).2 ∧ (l.getD i ivD).1 + (l.getD i ivD).2 ≤ e
  | [], _, _, _, _, hi => by simp at hi
  | x :: l, b, e, h, 0, _ => by
    have := Chain.le h.2.2
    have := h.1; have := h.2.1
    simp only [List.getD_cons_zero]; omega
  | x :: l, b, e, h, i + 1, hi => by
    have := Chain.at_ h.2.2 i (by simpa using hi)
    have := h.2.1
    simp only [List.getD_cons_succ]; omega
/-- How many addresses intervals have. -/
def lens : List IvT → Int
  | [] => 0
  | x :: l => x.2 + lens l
theorem Chain.lens : ∀ {l : List IvT} {b e : Int}, Chain b l e → lens l = e - b
  | [], b, e, h => by unfold Chain at h; unfold E.lens; omega
  | x :: l, b, e, h => by
    have := Chain.lens h.2.2
    unfold E.lens; omega
theorem Chain.pos {l : List IvT} {b e : Int} (h : Chain b l e) (hs : l.length < 10000) {t : Int} (ht : e ≤ t) : PosAt l t l.length false :=
  ⟨Nat.le_refl _, hs, fun i hi => by have := h.at_ i hi; omega, fun i h1 h2 => by omega, fun h => by (cases h), fun _ h => by omega⟩
theorem over_end (l : List IvT) (b e a n : Int) (h : Chain b l e) (hs : l.length < 10000) (hb : 0 ≤ b) (he : e ≤ a) (ha : a ≤ 1099511627776) (hn : 1 ≤ n) (hn2 : n ≤ 1099511627776) : Tri En 37 [.ptr 0 0 0, .agg [.int .i64 a, .int .i64 n]] [.cells [.slice 1 0 l.length], .tab true IvK l] (.bl false) [.cells [.slice 1 0 l.length], .tab true IvK l] := by
  have h1 := find_tri l a l.length false (h.pos hs he)
  refine Tri.of Try.func37 rfl Try.call37 rfl ?_
  by_cases hl : 0 < l.length
  · obtain ⟨m, hm⟩ : ∃ m : Nat, l.length = m + 1 := ⟨l.length - 1, by omega⟩
    have h2 := h.at_ m (by omega)
    have e1 : IntKind.i64.wrap ((l.length : Int) - 1) = (m : Int) := by rw [hm, w64 (by omega) (by omega)]; omega
    have g0 : decide ((l.getD ((IntKind.i64.wrap ((l.length : Int) - 1)).toNat + 0) (dfl IvK)).2 > IntKind.i64.wrap (a - (l.getD ((IntKind.i64.wrap ((l.length : Int) - 1)).toNat + 0) (dfl IvK)).1)) = false := by
      rw [e1]
      show decide ((l.getD m ivD).2 > IntKind.i64.wrap (a - (l.getD m ivD).1)) = false
      rw [w64 (by omega) (by omega)]
      exact decide_eq_false (by omega)
    refine Goods.fin 2000 [.b false, .c (.of h1), .s 18 (some true) true true, .b false, .s 49 (some false) true true] mixed Try.func37 ?_
    show Yes _
    repeat' apply And.intro
    all_goals try exact g0
    (all_goals first | rfl | assumption | trivial | omega | (simp [-List.getD_eq_getElem?_getD, e1] <;> omega) | (simp (disch := omega) only [w64, wu64] <;> omega) | (simp (disch := omega) [-List.getD_eq_getElem?_getD, List.getD_cons_zero, List.getD_cons_succ, kCast_self, dfl_pair, dfl_int, w64, wu64, e1] <;> omega) | (rw [Bool.eq_iff_iff]; simp (disch := omega) [-List.getD_eq_getElem?_getD, List.getD_cons_zero, List.getD_cons_succ, kCast_self, dfl_pair, dfl_int, w64, wu64, e1] <;> omega) | (simp_all [-List.getD_eq_getElem?_getD] <;> omega))
  · refine Goods.fin 2000 [.b false, .c (.of h1), .s 18 (some false) true true, .s 49 (some false) true true] mixed Try.func37 ?_
    show Yes _
    repeat' apply And.intro
    (all_goals first | rfl | assumption | trivial | omega | (simp [-List.getD_eq_getElem?_getD] <;> omega) | (simp (disch := omega) only [w64, wu64] <;> omega) | (simp (disch := omega) [-List.getD_eq_getElem?_getD, List.getD_cons_zero, List.getD_cons_succ, kCast_self, dfl_pair, dfl_int, w64, wu64] <;> omega) | (rw [Bool.eq_iff_iff]; simp (disch := omega) [-List.getD_eq_getElem?_getD, List.getD_cons_zero, List.getD_cons_succ, kCast_self, dfl_pair, dfl_int, w64, wu64] <;> omega) | (simp_all [-List.getD_eq_getElem?_getD] <;> omega))
/-- All of intervals' object, and one more behind them. -/
theorem insert_tri (l : List IvT) (x : IvT) (hs : l.length < 10000) : Tri En 39 [.slice 0 0 l.length, .int .i64 l.length, .slice 1 0 1] [.tab true IvK l, .tab true IvK [x]] (.slice 2 0 (l.length + 1)) [.gone, .gone, .tab true IvK (l ++ [x])] := by
  refine Tri.of Try.func39 rfl Try.call39 rfl ?_
  refine Goods.fin 2000 [.b false, .b true, .s 25 none true true] mixed Try.func39 ?_
  show Yes _
  repeat' apply And.intro
  (all_goals first | rfl | assumption | trivial | omega | (simp [-List.getD_eq_getElem?_getD] <;> omega) | (simp (disch := omega) only [w64, wu64] <;> omega) | (simp (disch := omega) [-List.getD_eq_getElem?_getD, List.getD_cons_zero, List.getD_cons_succ, kCast_self, dfl_pair, dfl_int, w64, wu64] <;> omega) | (rw [Bool.eq_iff_iff]; simp (disch := omega) [-List.getD_eq_getElem?_getD, List.getD_cons_zero, List.getD_cons_succ, kCast_self, dfl_pair, dfl_int, w64, wu64] <;> omega) | (simp_all [-List.getD_eq_getElem?_getD] <;> omega))
theorem put_end (l : List IvT) (b e a n : Int) (h : Chain b l e) (hs : l.length < 10000) (hb : 0 ≤ b) (he : e ≤ a) (ha : a ≤ 1099511627776) (hn : 1 ≤ n) (hn2 : n ≤ 1099511627776) : Tri En 23 [.ptr 0 0 0, .agg [.int .i64 a, .int .i64 n]] [.cells [.slice 1 0 l.length], .tab true IvK l] (.bl true) [.cells [.slice 2 0 (l ++ [(a, n)]).length], .gone, .tab true IvK (l ++ [(a, n)])] := by
  have h1 := find_tri l a l.length false (h.pos hs he)
  have h2 := over_end l b e a n h hs hb he ha hn hn2
  have h3 := insert_tri l (a, n) hs
  have h0 := h.le
  refine Tri.of Try.func23 rfl Try.call23 rfl ?_
  refine Goods.fin 2000 [.s 9 (some false) true true, .s 13 (some false) true true, .s 18 (some false) true true, .s 23 (some false) true true, .c (.of h2), .c (.of h1), .c (.of h3)] mixed Try.func23 ?_
  show Yes _
  repeat' apply And.intro
  (all_goals first | rfl | assumption | trivial | omega | (simp [-List.getD_eq_getElem?_getD] <;> omega) | (simp (disch := omega) only [w64, wu64] <;> omega) | (simp (disch := omega) [-List.getD_eq_getElem?_getD, List.getD_cons_zero, List.getD_cons_succ, kCast_self, dfl_pair, dfl_int, w64, wu64] <;> omega) | (rw [Bool.eq_iff_iff]; simp (disch := omega) [-List.getD_eq_getElem?_getD, List.getD_cons_zero, List.getD_cons_succ, kCast_self, dfl_pair, dfl_int, w64, wu64] <;> omega) | (simp_all [-List.getD_eq_getElem?_getD] <;> omega))
/-- The sixth address is the first interval's. -/
theorem Chain.pos5 {l : List IvT} {b e n : Int} (h : Chain b ((b, n) :: l) e) (hs : l.length < 9999) (hn : 16 ≤ n) : PosAt ((b, n) :: l) (b + 5) 1 false := by
  have key : ∀ i, 1 ≤ i → i < ((b, n) :: l).length → b + 16 ≤ (((b, n) :: l).getD i ivD).1 := by
    intro i h1 h2
    obtain ⟨k, rfl⟩ : ∃ k, i = k + 1 := ⟨i - 1, by omega⟩
    have := Chain.at_ h.2.2 k (by simpa using h2)
    simp only at this
    simp only [List.getD_cons_succ]; omega
  refine ⟨by simp, by simp; omega, fun i hi => ?_, fun i h1 h2 => by have := key i h1 h2; omega, fun h => by (cases h), fun _ h2 => by have := key 1 (Nat.le_refl _) h2; omega⟩
  obtain rfl : i = 0 := by omega
  simp only [List.getD_cons_zero]; omega
theorem put_in (l : List IvT) (b e n : Int) (h : Chain b ((b, n) :: l) e) (hs : l.length < 9999) (hb : 0 ≤ b) (hb2 : b ≤ 1000000) (hn : 16 ≤ n) : Tri En 23 [.ptr 0 0 0, .agg [.int .i64 (b + 5), .int .i64 1]] [.cells [.slice 1 0 ((b, n) :: l).length], .tab true IvK ((b, n) :: l)] (.bl false) [.cells [.slice 1 0 ((b, n) :: l).length], .tab true IvK ((b, n) :: l)] := by
  have h1 := find_tri _ _ _ _ (h.pos5 hs hn)
  have h2 : Tri En 37 [.ptr 0 0 0, .agg [.int .i64 (b + 5), .int .i64 1]] [.cells [.slice 1 0 ((b, n) :: l).length], .tab true IvK ((b, n) :: l)] (.bl true) [.cells [.slice 1 0 ((b, n) :: l).length], .tab true IvK ((b, n) :: l)] := by
    have g0 : decide ((((b, n) :: l).getD ((IntKind.i64.wrap (((1 : Nat) : Int) - 1)).toNat + 0) (dfl IvK)).2 > IntKind.i64.wrap (b + 5 - (((b, n) :: l).getD ((IntKind.i64.wrap (((1 : Nat) : Int) - 1)).toNat + 0) (dfl IvK)).1)) = true := by
      show decide (n > IntKind.i64.wrap (b + 5 - b)) = true
      rw [w64 (by omega) (by omega)]
      exact decide_eq_true (by omega)
    refine Tri.of Try.func37 rfl Try.call37 rfl ?_
    refine Goods.fin 2000 [.b false, .c (.of h1), .s 18 (some true) true true, .b true] mixed Try.func37 ?_
    show Yes _
    repeat' apply And.intro
    all_goals try exact g0
    (all_goals first | rfl | assumption | trivial | omega | (simp [-List.getD_eq_getElem?_getD] <;> omega) | (simp (disch := omega) only [w64, wu64] <;> omega) | (simp (disch := omega) [-List.getD_eq_getElem?_getD, List.getD_cons_zero, List.getD_cons_succ, kCast_self, dfl_pair, dfl_int, w64, wu64] <;> omega) | (rw [Bool.eq_iff_iff]; simp (disch := omega) [-List.getD_eq_getElem?_getD, List.getD_cons_zero, List.getD_cons_succ, kCast_self, dfl_pair, dfl_int, w64, wu64] <;> omega) | (simp_all [-List.getD_eq_getElem?_getD] <;> omega))
  refine Tri.of Try.func23 rfl Try.call23 rfl ?_
  refine Goods.fin 2000 [.s 9 (some false) true true, .s 13 (some false) true true, .s 18 (some false) true true, .s 23 (some false) true true, .c (.of h2)] mixed Try.func23 ?_
  show Yes _
  repeat' apply And.intro
  (all_goals first | rfl | assumption | trivial | omega | (simp [-List.getD_eq_getElem?_getD] <;> omega) | (simp (disch := omega) only [w64, wu64] <;> omega) | (simp (disch := omega) [-List.getD_eq_getElem?_getD, List.getD_cons_zero, List.getD_cons_succ, kCast_self, dfl_pair, dfl_int, w64, wu64] <;> omega) | (rw [Bool.eq_iff_iff]; simp (disch := omega) [-List.getD_eq_getElem?_getD, List.getD_cons_zero, List.getD_cons_succ, kCast_self, dfl_pair, dfl_int, w64, wu64] <;> omega) | (simp_all [-List.getD_eq_getElem?_getD] <;> omega))
noncomputable abbrev gBy (l : List IvT) (n : Int) : Frm := ⟨En, 28, Try.f28.ntmps, [.cells [.slice 1 0 l.length], .tab true IvK l], .int .i64 n, [.cells [.slice 1 0 l.length], .tab true IvK l]⟩
theorem by_0 (l : List IvT) (b e : Int) (h : Chain b l e) (hs : l.length < 10000) (hb : 0 ≤ b) (he : e ≤ 1099511627776) : ∀ (j k : Nat) (s : Int), k + j = l.length → s + lens (l.drop k) = e - b → 0 ≤ s → Goods (gBy l (e - b)) ⟨.none, lp Try.f28 0, [(3, .int .i64 s), (9, .slice 1 0 l.length), (10, .int .i64 l.length), (11, .int .i64 k)], hp [.cells [.slice 1 0 l.length], .tab true IvK l]⟩
  | 0, k, s, hk, hs2, _ => by
    rw [List.drop_eq_nil_of_le (by omega)] at hs2
    unfold lens at hs2
    obtain rfl : s = e - b := by omega
    refine Goods.fin 2000 [.b false] mixed Try.func28 ?_
    show Yes _
    repeat' apply And.intro
    (all_goals first | rfl | assumption | trivial | omega | (simp [-List.getD_eq_getElem?_getD] <;> omega) | (simp (disch := omega) only [w64, wu64] <;> omega) | (simp (disch := omega) [-List.getD_eq_getElem?_getD, List.getD_cons_zero, List.getD_cons_succ, kCast_self, dfl_pair, dfl_int, w64, wu64] <;> omega) | (rw [Bool.eq_iff_iff]; simp (disch := omega) [-List.getD_eq_getElem?_getD, List.getD_cons_zero, List.getD_cons_succ, kCast_self, dfl_pair, dfl_int, w64, wu64] <;> omega) | (simp_all [-List.getD_eq_getElem?_getD] <;> omega))
  | j + 1, k, s, hk, hs2, h0 => by
    have hk2 : k < l.length := by omega
    have h1 := h.at_ k hk2
    have hl := h.le
    rw [List.drop_eq_getElem_cons hk2] at hs2
    unfold lens at hs2
    rw [show l[k] = l.getD k ivD by simp [List.getD, hk2]] at hs2
    have hp : 0 ≤ lens (l.drop (k + 1)) := by
      have key : ∀ (l' : List IvT) (b' e' : Int), Chain b' l' e' → ∀ i, 0 ≤ lens (l'.drop i) := by
        intro l'
        induction l' with
        | nil => intro b' e' _ i; simp [lens]
        | cons x l' ih =>
          intro b' e' h' i
          cases i with
          | zero => have := h'.lens; have := h'.le; simp only [List.drop_zero]; omega
          | succ i => exact ih _ _ h'.2.2 i
      exact key l b e h (k + 1)
    have ih := by_0 l b e h hs hb he j (k + 1) (s + (l.getD k ivD).2) (by omega) (by omega) (by omega)
    obtain ⟨x, hx⟩ : ∃ x, x = (l.getD k ivD).2 := ⟨_, rfl⟩
    have g1 : IntKind.i64.wrap (s + (l.getD k ivD).2) = s + (l.getD k ivD).2 := w64 (by omega) (by omega)
    refine Goods.to 2000 [.b true, .l, .stop] mixed (ih) (by kernel_rfl) ?_
    show Yes _
    repeat' apply And.intro
    all_goals try exact g1
    (all_goals first | rfl | assumption | trivial | omega | (simp [-List.getD_eq_getElem?_getD] <;> omega) | (simp (disch := omega) only [w64, wu64] <;> omega) | (simp (disch := omega) [-List.getD_eq_getElem?_getD, List.getD_cons_zero, List.getD_cons_succ, kCast_self, dfl_pair, dfl_int, w64, wu64] <;> omega) | (rw [Bool.eq_iff_iff]; simp (disch := omega) [-List.getD_eq_getElem?_getD, List.getD_cons_zero, List.getD_cons_succ, kCast_self, dfl_pair, dfl_int, w64, wu64] <;> omega) | (simp_all [-List.getD_eq_getElem?_getD] <;> omega))
theorem bytes_tri (l : List IvT) (b e : Int) (h : Chain b l e) (hs : l.length < 10000) (hb : 0 ≤ b) (he : e ≤ 1099511627776) : Tri En 28 [.ptr 0 0 0] [.cells [.slice 1 0 l.length], .tab true IvK l] (.int .i64 (e - b)) [.cells [.slice 1 0 l.length], .tab true IvK l] := by
  have ih := by_0 l b e h hs hb he l.length 0 0 (by omega) (by rw [List.drop_zero, h.lens]; omega) (by omega)
  refine Tri.of Try.func28 rfl Try.call28 rfl ?_
  refine Goods.to 2000 [.l, .stop] mixed (ih) (by kernel_rfl) ?_
  show Yes _
  repeat' apply And.intro
  (all_goals first | rfl | assumption | trivial | omega | (simp [-List.getD_eq_getElem?_getD] <;> omega) | (simp (disch := omega) only [w64, wu64] <;> omega) | (simp (disch := omega) [-List.getD_eq_getElem?_getD, List.getD_cons_zero, List.getD_cons_succ, kCast_self, dfl_pair, dfl_int, w64, wu64] <;> omega) | (rw [Bool.eq_iff_iff]; simp (disch := omega) [-List.getD_eq_getElem?_getD, List.getD_cons_zero, List.getD_cons_succ, kCast_self, dfl_pair, dfl_int, w64, wu64] <;> omega) | (simp_all [-List.getD_eq_getElem?_getD] <;> omega))
end Go.Proofs.Ytcicfbccdgkfhaa.E
