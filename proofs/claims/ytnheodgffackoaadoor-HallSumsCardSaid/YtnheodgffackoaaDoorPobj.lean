/- Package obj: objects, their plain models, and the contract of each function. -/
import Derived.Test.YtnheodgffackoaaDoorEn
namespace Go.Proofs.YtnheodgffackoaaDoor.E
set_option linter.unusedSimpArgs false
set_option linter.unusedVariables false
open Go
set_option maxRecDepth 100000

/-- What an object is asked, or answers. -/
abbrev OpK : K := .pair (.int .u64) (.int .u64)
def opA (o : Int × Int) : AV := .agg [.int .u64 o.1, .int .u64 o.2]
def Op64 (o : Int × Int) : Prop := (0 ≤ o.1 ∧ o.1 ≤ 18446744073709551615) ∧ 0 ≤ o.2 ∧ o.2 ≤ 18446744073709551615
/-- An object's run: from a state, by steps; all answers, and the state. -/
def runO {σ : Type} (f : σ → Int × Int → σ × (Int × Int)) (s : σ) : List (Int × Int) → σ × List (Int × Int)
  | [] => (s, [])
  | o :: l => ((runO f (f s o).1 l).1, (f s o).2 :: (runO f (f s o).1 l).2)
theorem runO_snoc {σ : Type} (f : σ → Int × Int → σ × (Int × Int)) (o : Int × Int) : ∀ (l : List (Int × Int)) (s : σ), runO f s (l ++ [o]) = ((f (runO f s l).1 o).1, (runO f s l).2 ++ [(f (runO f s l).1 o).2])
  | [], _ => rfl
  | x :: l, s => by simp only [List.cons_append, runO]; rw [runO_snoc f o l]
theorem runO_app {σ : Type} (f : σ → Int × Int → σ × (Int × Int)) (l' : List (Int × Int)) : ∀ (l : List (Int × Int)) (s : σ), runO f s (l ++ l') = ((runO f (runO f s l).1 l').1, (runO f s l).2 ++ (runO f (runO f s l).1 l').2)
  | [], _ => by simp [runO]
  | x :: l, s => by simp only [List.cons_append, runO]; rw [runO_app f l' l]
theorem runO_len {σ : Type} (f : σ → Int × Int → σ × (Int × Int)) : ∀ (l : List (Int × Int)) (s : σ), (runO f s l).2.length = l.length
  | [], _ => rfl
  | x :: l, s => by simp [runO, runO_len f l]
theorem runO_take {σ : Type} (f : σ → Int × Int → σ × (Int × Int)) (s : σ) (l : List (Int × Int)) (k : Nat) (h : k < l.length) : runO f s (l.take (k + 1)) = ((f (runO f s (l.take k)).1 (l.getD k (0, 0))).1, (runO f s (l.take k)).2 ++ [(f (runO f s (l.take k)).1 (l.getD k (0, 0))).2]) := by
  have : l.take (k + 1) = l.take k ++ [l.getD k (0, 0)] := by rw [List.take_succ_eq_append_getElem h]; simp [List.getD, h]
  rw [this, runO_snoc]

/-- A counter's step. -/
def cntF (n : Int) (o : Int × Int) : Int × (Int × Int) := (IntKind.u64.wrap (n + o.1), (n, IntKind.u64.wrap (n + o.1)))
/-- A stack's step: what it has, the top last. -/
def stF (R : Nat) (p : List Int) (o : Int × Int) : List Int × (Int × Int) :=
  if o.1 = 1 ∧ p.length < R then (p ++ [o.2], (1, 0)) else if o.1 = 2 ∧ 0 < p.length then (p.take (p.length - 1), (1, p.getD (p.length - 1) 0)) else (p, (0, 0))
def roomN (r : Int) : Nat := (min (max r 0) 1000).toNat
theorem roomN_le (r : Int) : roomN r ≤ 1000 := by unfold roomN; omega
theorem roomN_int (r : Int) : ((roomN r : Nat) : Int) = min (max r 0) 1000 := by unfold roomN; omega
theorem stF_le {R : Nat} {p : List Int} (h : p.length ≤ R) (o : Int × Int) : (stF R p o).1.length ≤ R := by
  unfold stF; split
  · simp; omega
  · split
    · simp; omega
    · exact h
theorem runO_le {R : Nat} : ∀ (l : List (Int × Int)) {p : List Int}, p.length ≤ R → (runO (stF R) p l).1.length ≤ R
  | [], _, h => h
  | o :: l, _, h => runO_le l (stF_le h o)
/-- A stack's words. -/
def stW (R : Nat) (p : List Int) : List Int := tabW (1 + R) fun i => if i = 0 then (p.length : Int) else p.getD (i - 1) 0
theorem stW_zero (R : Nat) : List.replicate (1 + R) 0 = stW R [] := by
  rw [tabW_zero]; exact tabW_congr fun i _ => by split <;> simp
theorem stW_at0 (R : Nat) (p : List Int) : (stW R p).getD 0 0 = p.length := (tabW_get (by omega)).trans (if_pos rfl)
theorem stW_at {R : Nat} (p : List Int) {i : Nat} (h : i < R) : (stW R p).getD (1 + i) 0 = p.getD i 0 := by
  rw [stW, tabW_get (by omega), if_neg (by omega), Nat.add_sub_cancel_left]
theorem stW_push {R : Nat} {p : List Int} (h : p.length < R) (b : Int) : ((stW R p).set (1 + p.length) b).set 0 (p.length + 1 : Nat) = stW R (p ++ [b]) := by
  unfold stW
  rw [tabW_set, tabW_set]
  refine tabW_congr fun i hi => ?_
  by_cases h0 : i = 0
  · simp [h0]
  · rw [if_neg h0, if_neg h0]
    by_cases h1 : i = 1 + p.length
    · rw [if_pos h1, h1]; simp [List.getD]
    · rw [if_neg h1, if_neg h0]
      simp only [List.getD, List.getElem?_append]
      split
      · rfl
      · rw [List.getElem?_eq_none (by omega), List.getElem?_eq_none (by simp; omega)]
theorem stW_pop {R : Nat} {p : List Int} (h : 0 < p.length) (hR : p.length ≤ R) : ((stW R p).set p.length 0).set 0 (p.length - 1 : Nat) = stW R (p.take (p.length - 1)) := by
  unfold stW
  rw [tabW_set, tabW_set]
  refine tabW_congr fun i hi => ?_
  by_cases h0 : i = 0
  · rw [if_pos h0, if_pos h0]; simp
  · rw [if_neg h0, if_neg h0]
    simp only [List.getD, List.getElem?_take]
    by_cases h1 : i = p.length
    · rw [if_pos h1, if_neg h0, if_neg (show ¬ i - 1 < p.length - 1 by omega)]; rfl
    · rw [if_neg h1, if_neg h0]
      split
      · rfl
      · rw [List.getElem?_eq_none (by omega)]

theorem cnt_words : Tri En 101 [.agg []] [] (.int .i64 1) [] := by
  refine Tri.of Tryd.func101 rfl Tryd.call101 rfl ?_
  refine Goods.fin 2000 [] mixed Tryd.func101 ?_
  show Yes _
  repeat' apply And.intro
  (all_goals first | rfl | assumption | trivial | omega | (simp [-List.getD_eq_getElem?_getD] <;> omega) | (simp (disch := omega) only [w64, wu64] <;> omega) | (simp (disch := omega) [-List.getD_eq_getElem?_getD, List.getD_cons_zero, List.getD_cons_succ, kCast_self, dfl_pair, dfl_int, w64, wu64] <;> omega) | (rw [Bool.eq_iff_iff]; simp (disch := omega) [-List.getD_eq_getElem?_getD, List.getD_cons_zero, List.getD_cons_succ, kCast_self, dfl_pair, dfl_int, w64, wu64] <;> omega) | (simp_all [-List.getD_eq_getElem?_getD] <;> omega))
theorem cnt_apply (n : Int) (o : Int × Int) : Tri En 100 [.agg [], .slice 0 0 1, opA o] [.tab true (.int .u64) [n]] (opA (cntF n o).2) [.tab true (.int .u64) [(cntF n o).1]] := by
  refine Tri.of Tryd.func100 rfl Tryd.call100 rfl ?_
  refine Goods.fin 2000 [] mixed Tryd.func100 ?_
  show Yes _
  repeat' apply And.intro
  (all_goals first | rfl | assumption | trivial | omega | (simp [-List.getD_eq_getElem?_getD] <;> omega) | (simp (disch := omega) only [w64, wu64] <;> omega) | (simp (disch := omega) [-List.getD_eq_getElem?_getD, List.getD_cons_zero, List.getD_cons_succ, kCast_self, dfl_pair, dfl_int, w64, wu64] <;> omega) | (rw [Bool.eq_iff_iff]; simp (disch := omega) [-List.getD_eq_getElem?_getD, List.getD_cons_zero, List.getD_cons_succ, kCast_self, dfl_pair, dfl_int, w64, wu64] <;> omega) | (simp_all [-List.getD_eq_getElem?_getD] <;> omega))
theorem st_room (r : Int) : Tri En 104 [.agg [.int .i64 r]] [] (.int .i64 (roomN r)) [] := by
  rw [roomN_int]
  refine Tri.of Tryd.func104 rfl Tryd.call104 rfl ?_
  refine Goods.fin 2000 [] mixed Tryd.func104 ?_
  show Yes _
  repeat' apply And.intro
  (all_goals first | rfl | assumption | trivial | omega | (simp [-List.getD_eq_getElem?_getD] <;> omega) | (simp (disch := omega) only [w64, wu64] <;> omega) | (simp (disch := omega) [-List.getD_eq_getElem?_getD, List.getD_cons_zero, List.getD_cons_succ, kCast_self, dfl_pair, dfl_int, w64, wu64] <;> omega) | (rw [Bool.eq_iff_iff]; simp (disch := omega) [-List.getD_eq_getElem?_getD, List.getD_cons_zero, List.getD_cons_succ, kCast_self, dfl_pair, dfl_int, w64, wu64] <;> omega) | (simp_all [-List.getD_eq_getElem?_getD] <;> omega))
theorem st_words (r : Int) : Tri En 103 [.agg [.int .i64 r]] [] (.int .i64 (1 + roomN r : Nat)) [] := by
  have h := roomN_le r
  refine Tri.of Tryd.func103 rfl Tryd.call103 rfl ?_
  refine Goods.fin 2000 [.c (.of (st_room r))] mixed Tryd.func103 ?_
  show Yes _
  repeat' apply And.intro
  (all_goals first | rfl | assumption | trivial | omega | (simp [-List.getD_eq_getElem?_getD] <;> omega) | (simp (disch := omega) only [w64, wu64] <;> omega) | (simp (disch := omega) [-List.getD_eq_getElem?_getD, List.getD_cons_zero, List.getD_cons_succ, kCast_self, dfl_pair, dfl_int, w64, wu64] <;> omega) | (rw [Bool.eq_iff_iff]; simp (disch := omega) [-List.getD_eq_getElem?_getD, List.getD_cons_zero, List.getD_cons_succ, kCast_self, dfl_pair, dfl_int, w64, wu64] <;> omega) | (simp_all [-List.getD_eq_getElem?_getD] <;> omega))
theorem getD_set_ne' {l : List Int} {i j : Nat} {x d : Int} (h : i ≠ j) : (l.set i x).getD j d = l.getD j d := by simp only [List.getD, List.getElem?_set]; rw [if_neg h]
theorem st_apply (r : Int) (p : List Int) (hp : p.length ≤ roomN r) (o : Int × Int) (ho : Op64 o) : Tri En 102 [.agg [.int .i64 r], .slice 0 0 (1 + roomN r), opA o] [.tab true (.int .u64) (stW (roomN r) p)] (opA (stF (roomN r) p o).2) [.tab true (.int .u64) (stW (roomN r) (stF (roomN r) p o).1)] := by
  have hR := roomN_le r
  have h0 := stW_at0 (roomN r) p
  have hl : (stW (roomN r) p).length = 1 + roomN r := tabW_len _ _
  obtain ⟨a, b⟩ := o
  obtain ⟨⟨a0, a1⟩, b0, b1⟩ := ho
  simp only at a0 a1 b0 b1
  refine Tri.of Tryd.func102 rfl Tryd.call102 rfl ?_
  by_cases c1 : a = 1
  · by_cases c2 : p.length < roomN r
    · have e : stF (roomN r) p (a, b) = (p ++ [b], (1, 0)) := by simp [stF, c1, c2]
      rw [e, ← stW_push c2]
      have e1 : ((1 : Int) + p.length).toNat = 1 + p.length := by omega
      have h2 : ((stW (roomN r) p).set (1 + p.length) b).getD 0 0 = p.length := by rw [getD_set_ne' (by omega)]; exact h0
      refine Goods.fin 2000 [.s 16 (some true) true true, .c (.of (st_room r)), .b true] mixed Tryd.func102 ?_
      show Yes _
      repeat' apply And.intro
      (all_goals first | rfl | assumption | trivial | omega | (simp [-List.getD_eq_getElem?_getD, h0, hl, e1, h2] <;> omega) | (simp (disch := omega) only [w64, wu64] <;> omega) | (simp (disch := omega) [-List.getD_eq_getElem?_getD, List.getD_cons_zero, List.getD_cons_succ, kCast_self, dfl_pair, dfl_int, w64, wu64, h0, hl, e1, h2] <;> omega) | (rw [Bool.eq_iff_iff]; simp (disch := omega) [-List.getD_eq_getElem?_getD, List.getD_cons_zero, List.getD_cons_succ, kCast_self, dfl_pair, dfl_int, w64, wu64, h0, hl, e1, h2] <;> omega) | (simp_all [-List.getD_eq_getElem?_getD] <;> omega))
    · have e : stF (roomN r) p (a, b) = (p, (0, 0)) := by simp [stF, c1, c2]
      rw [e]
      refine Goods.fin 2000 [.s 16 (some true) true true, .c (.of (st_room r)), .b false, .s 38 (some false) true true] mixed Tryd.func102 ?_
      show Yes _
      repeat' apply And.intro
      (all_goals first | rfl | assumption | trivial | omega | (simp [-List.getD_eq_getElem?_getD, h0, hl] <;> omega) | (simp (disch := omega) only [w64, wu64] <;> omega) | (simp (disch := omega) [-List.getD_eq_getElem?_getD, List.getD_cons_zero, List.getD_cons_succ, kCast_self, dfl_pair, dfl_int, w64, wu64, h0, hl] <;> omega) | (rw [Bool.eq_iff_iff]; simp (disch := omega) [-List.getD_eq_getElem?_getD, List.getD_cons_zero, List.getD_cons_succ, kCast_self, dfl_pair, dfl_int, w64, wu64, h0, hl] <;> omega) | (simp_all [-List.getD_eq_getElem?_getD] <;> omega))
  · by_cases c3 : a = 2
    · by_cases c2 : 0 < p.length
      · have e : stF (roomN r) p (a, b) = (p.take (p.length - 1), (1, p.getD (p.length - 1) 0)) := by simp [stF, c3, c2]
        have h1 := stW_at (R := roomN r) p (i := p.length - 1) (by omega)
        rw [show 1 + (p.length - 1) = p.length by omega] at h1
        have h2 : ((stW (roomN r) p).set p.length 0).getD 0 0 = p.length := by rw [getD_set_ne' (by omega)]; exact h0
        have e2 : ((p.length - 1 : Nat) : Int) = p.length - 1 := by omega
        rw [e, ← stW_pop c2 hp]
        refine Goods.fin 2000 [.s 16 (some false) true true, .s 38 (some true) true true, .b true] mixed Tryd.func102 ?_
        show Yes _
        repeat' apply And.intro
        (all_goals first | rfl | assumption | trivial | omega | (simp [-List.getD_eq_getElem?_getD, h0, hl, h1, h2, e2] <;> omega) | (simp (disch := omega) only [w64, wu64] <;> omega) | (simp (disch := omega) [-List.getD_eq_getElem?_getD, List.getD_cons_zero, List.getD_cons_succ, kCast_self, dfl_pair, dfl_int, w64, wu64, h0, hl, h1, h2, e2] <;> omega) | (rw [Bool.eq_iff_iff]; simp (disch := omega) [-List.getD_eq_getElem?_getD, List.getD_cons_zero, List.getD_cons_succ, kCast_self, dfl_pair, dfl_int, w64, wu64, h0, hl, h1, h2, e2] <;> omega) | (simp_all [-List.getD_eq_getElem?_getD] <;> omega))
      · obtain rfl : p = [] := List.eq_nil_of_length_eq_zero (by omega)
        have e : stF (roomN r) [] (a, b) = ([], (0, 0)) := by simp [stF, c3]
        rw [e]
        refine Goods.fin 2000 [.s 16 (some false) true true, .s 38 (some true) true true, .b false] mixed Tryd.func102 ?_
        show Yes _
        repeat' apply And.intro
        (all_goals first | rfl | assumption | trivial | omega | (simp [-List.getD_eq_getElem?_getD, h0, hl] <;> omega) | (simp (disch := omega) only [w64, wu64] <;> omega) | (simp (disch := omega) [-List.getD_eq_getElem?_getD, List.getD_cons_zero, List.getD_cons_succ, kCast_self, dfl_pair, dfl_int, w64, wu64, h0, hl] <;> omega) | (rw [Bool.eq_iff_iff]; simp (disch := omega) [-List.getD_eq_getElem?_getD, List.getD_cons_zero, List.getD_cons_succ, kCast_self, dfl_pair, dfl_int, w64, wu64, h0, hl] <;> omega) | (simp_all [-List.getD_eq_getElem?_getD] <;> omega))
    · have e : stF (roomN r) p (a, b) = (p, (0, 0)) := by simp [stF, c1, c3]
      rw [e]
      refine Goods.fin 2000 [.s 16 (some false) true true, .s 38 (some false) true true] mixed Tryd.func102 ?_
      show Yes _
      repeat' apply And.intro
      (all_goals first | rfl | assumption | trivial | omega | (simp [-List.getD_eq_getElem?_getD, h0, hl] <;> omega) | (simp (disch := omega) only [w64, wu64] <;> omega) | (simp (disch := omega) [-List.getD_eq_getElem?_getD, List.getD_cons_zero, List.getD_cons_succ, kCast_self, dfl_pair, dfl_int, w64, wu64, h0, hl] <;> omega) | (rw [Bool.eq_iff_iff]; simp (disch := omega) [-List.getD_eq_getElem?_getD, List.getD_cons_zero, List.getD_cons_succ, kCast_self, dfl_pair, dfl_int, w64, wu64, h0, hl] <;> omega) | (simp_all [-List.getD_eq_getElem?_getD] <;> omega))
theorem meth_cnt_words : Meth En 30 "Words" 101 := fun _ _ => by kernel_rfl
theorem meth_cnt_apply : Meth En 30 "Apply" 100 := fun _ _ => by kernel_rfl
theorem meth_st_words : Meth En 100 "Words" 103 := fun _ _ => by kernel_rfl
theorem meth_st_apply : Meth En 100 "Apply" 102 := fun _ _ => by kernel_rfl
/-- A counter, some asked one behind the other. -/
noncomputable abbrev gRepC (own : Bool) (l : List (Int × Int)) : Frm := ⟨En, 25, Tryd.f25.ntmps, [.tab own OpK l], .tuple [.slice 1 0 l.length, .slice 2 0 1], [.tab own OpK l, .tab true OpK (runO cntF 0 l).2, .tab true (.int .u64) [(runO cntF 0 l).1]]⟩
theorem repC_0 (own : Bool) (l : List (Int × Int)) (hl : l.length ≤ 1000000) : ∀ (j k : Nat), k + j = l.length → Goods (gRepC own l) ⟨.none, lp Tryd.f25 0,
    [(0, .iface 30 (.agg [])), (6, .slice 1 0 1), (7, .slice 2 0 k), (13, .slice 0 0 l.length), (14, .int .i64 l.length), (15, .int .i64 k)],
    hp [.tab own OpK l, .tab true (.int .u64) [(runO cntF 0 (l.take k)).1], .tab true OpK (runO cntF 0 (l.take k)).2]⟩
  | 0, k, h => by
    obtain rfl : k = l.length := by omega
    rw [List.take_length]
    refine Goods.fin 2000 [.b false] mixed Tryd.func25 ?_
    show Yes _
    repeat' apply And.intro
    (all_goals first | rfl | assumption | trivial | omega | (simp [-List.getD_eq_getElem?_getD] <;> omega) | (simp (disch := omega) only [w64, wu64] <;> omega) | (simp (disch := omega) [-List.getD_eq_getElem?_getD, List.getD_cons_zero, List.getD_cons_succ, kCast_self, dfl_pair, dfl_int, w64, wu64] <;> omega) | (rw [Bool.eq_iff_iff]; simp (disch := omega) [-List.getD_eq_getElem?_getD, List.getD_cons_zero, List.getD_cons_succ, kCast_self, dfl_pair, dfl_int, w64, wu64] <;> omega) | (simp_all [-List.getD_eq_getElem?_getD] <;> omega))
  | j + 1, k, h => by
    have ih := repC_0 own l hl j (k + 1) (by omega)
    rw [runO_take cntF 0 l k (by omega)] at ih
    have hlen := runO_len cntF (l.take k) 0
    rw [List.length_take, Nat.min_eq_left (by omega)] at hlen
    have ha := cnt_apply (runO cntF 0 (l.take k)).1 (l.getD k (0, 0))
    refine Goods.to 2000 [.b true, .c (.ofM _ _ meth_cnt_apply ha), .l, .stop] mixed (ih) (by kernel_rfl) ?_
    show Yes _
    repeat' apply And.intro
    (all_goals first | rfl | assumption | trivial | omega | (simp [-List.getD_eq_getElem?_getD, hlen] <;> omega) | (simp (disch := omega) only [w64, wu64] <;> omega) | (simp (disch := omega) [-List.getD_eq_getElem?_getD, List.getD_cons_zero, List.getD_cons_succ, kCast_self, dfl_pair, dfl_int, w64, wu64, hlen] <;> omega) | (rw [Bool.eq_iff_iff]; simp (disch := omega) [-List.getD_eq_getElem?_getD, List.getD_cons_zero, List.getD_cons_succ, kCast_self, dfl_pair, dfl_int, w64, wu64, hlen] <;> omega) | (simp_all [-List.getD_eq_getElem?_getD] <;> omega))
theorem replay_cnt (own : Bool) (l : List (Int × Int)) (hl : l.length ≤ 1000000) : Tri En 25 [.iface 30 (.agg []), .slice 0 0 l.length] [.tab own OpK l] (.tuple [.slice 1 0 l.length, .slice 2 0 1]) [.tab own OpK l, .tab true OpK (runO cntF 0 l).2, .tab true (.int .u64) [(runO cntF 0 l).1]] := by
  have ih := repC_0 own l hl l.length 0 (by omega)
  refine Tri.of Tryd.func25 rfl Tryd.call25 rfl ?_
  refine Goods.to 2000 [.c (.ofM _ _ meth_cnt_words cnt_words), .l, .stop] mixed (ih) (by kernel_rfl) ?_
  show Yes _
  repeat' apply And.intro
  (all_goals first | rfl | assumption | trivial | omega | (simp [-List.getD_eq_getElem?_getD] <;> omega) | (simp (disch := omega) only [w64, wu64] <;> omega) | (simp (disch := omega) [-List.getD_eq_getElem?_getD, List.getD_cons_zero, List.getD_cons_succ, kCast_self, dfl_pair, dfl_int, w64, wu64] <;> omega) | (rw [Bool.eq_iff_iff]; simp (disch := omega) [-List.getD_eq_getElem?_getD, List.getD_cons_zero, List.getD_cons_succ, kCast_self, dfl_pair, dfl_int, w64, wu64] <;> omega) | (simp_all [-List.getD_eq_getElem?_getD] <;> omega))
/-- A stack, likewise. -/
noncomputable abbrev gRepS (own : Bool) (r : Int) (l : List (Int × Int)) : Frm := ⟨En, 25, Tryd.f25.ntmps, [.tab own OpK l], .tuple [.slice 1 0 l.length, .slice 2 0 (1 + roomN r)], [.tab own OpK l, .tab true OpK (runO (stF (roomN r)) [] l).2, .tab true (.int .u64) (stW (roomN r) (runO (stF (roomN r)) [] l).1)]⟩
theorem repS_0 (own : Bool) (r : Int) (l : List (Int × Int)) (hl : l.length ≤ 1000000) (ho : ∀ o ∈ l, Op64 o) : ∀ (j k : Nat), k + j = l.length → Goods (gRepS own r l) ⟨.none, lp Tryd.f25 0,
    [(0, .iface 100 (.agg [.int .i64 r])), (6, .slice 1 0 (1 + roomN r)), (7, .slice 2 0 k), (13, .slice 0 0 l.length), (14, .int .i64 l.length), (15, .int .i64 k)],
    hp [.tab own OpK l, .tab true (.int .u64) (stW (roomN r) (runO (stF (roomN r)) [] (l.take k)).1), .tab true OpK (runO (stF (roomN r)) [] (l.take k)).2]⟩
  | 0, k, h => by
    obtain rfl : k = l.length := by omega
    rw [List.take_length]
    refine Goods.fin 2000 [.b false] mixed Tryd.func25 ?_
    show Yes _
    repeat' apply And.intro
    (all_goals first | rfl | assumption | trivial | omega | (simp [-List.getD_eq_getElem?_getD] <;> omega) | (simp (disch := omega) only [w64, wu64] <;> omega) | (simp (disch := omega) [-List.getD_eq_getElem?_getD, List.getD_cons_zero, List.getD_cons_succ, kCast_self, dfl_pair, dfl_int, w64, wu64] <;> omega) | (rw [Bool.eq_iff_iff]; simp (disch := omega) [-List.getD_eq_getElem?_getD, List.getD_cons_zero, List.getD_cons_succ, kCast_self, dfl_pair, dfl_int, w64, wu64] <;> omega) | (simp_all [-List.getD_eq_getElem?_getD] <;> omega))
  | j + 1, k, h => by
    have ih := repS_0 own r l hl ho j (k + 1) (by omega)
    rw [runO_take _ _ l k (by omega)] at ih
    have hlen := runO_len (stF (roomN r)) (l.take k) []
    rw [List.length_take, Nat.min_eq_left (by omega)] at hlen
    have ha := st_apply r (runO (stF (roomN r)) [] (l.take k)).1 (runO_le _ (Nat.zero_le _)) (l.getD k (0, 0)) (ho _ (by simp only [List.getD]; rw [List.getElem?_eq_getElem (by omega)]; exact List.getElem_mem _))
    refine Goods.to 2000 [.b true, .c (.ofM _ _ meth_st_apply ha), .l, .stop] mixed (ih) (by kernel_rfl) ?_
    show Yes _
    repeat' apply And.intro
    (all_goals first | rfl | assumption | trivial | omega | (simp [-List.getD_eq_getElem?_getD, hlen] <;> omega) | (simp (disch := omega) only [w64, wu64] <;> omega) | (simp (disch := omega) [-List.getD_eq_getElem?_getD, List.getD_cons_zero, List.getD_cons_succ, kCast_self, dfl_pair, dfl_int, w64, wu64, hlen] <;> omega) | (rw [Bool.eq_iff_iff]; simp (disch := omega) [-List.getD_eq_getElem?_getD, List.getD_cons_zero, List.getD_cons_succ, kCast_self, dfl_pair, dfl_int, w64, wu64, hlen] <;> omega) | (simp_all [-List.getD_eq_getElem?_getD] <;> omega))
theorem replay_st (own : Bool) (r : Int) (l : List (Int × Int)) (hl : l.length ≤ 1000000) (ho : ∀ o ∈ l, Op64 o) : Tri En 25 [.iface 100 (.agg [.int .i64 r]), .slice 0 0 l.length] [.tab own OpK l] (.tuple [.slice 1 0 l.length, .slice 2 0 (1 + roomN r)])
    [.tab own OpK l, .tab true OpK (runO (stF (roomN r)) [] l).2, .tab true (.int .u64) (stW (roomN r) (runO (stF (roomN r)) [] l).1)] := by
  have ih := repS_0 own r l hl ho l.length 0 (by omega)
  rw [List.take_zero] at ih
  have e : stW (roomN r) (runO (stF (roomN r)) [] []).1 = List.replicate (1 + roomN r) 0 := (stW_zero _).symm
  rw [e] at ih
  have h := roomN_le r
  refine Tri.of Tryd.func25 rfl Tryd.call25 rfl ?_
  refine Goods.to 2000 [.c (.ofM _ _ meth_st_words (st_words r)), .l, .stop] mixed (ih) (by kernel_rfl) ?_
  show Yes _
  repeat' apply And.intro
  (all_goals first | rfl | assumption | trivial | omega | (simp [-List.getD_eq_getElem?_getD] <;> omega) | (simp (disch := omega) only [w64, wu64] <;> omega) | (simp (disch := omega) [-List.getD_eq_getElem?_getD, List.getD_cons_zero, List.getD_cons_succ, kCast_self, dfl_pair, dfl_int, w64, wu64] <;> omega) | (rw [Bool.eq_iff_iff]; simp (disch := omega) [-List.getD_eq_getElem?_getD, List.getD_cons_zero, List.getD_cons_succ, kCast_self, dfl_pair, dfl_int, w64, wu64] <;> omega) | (simp_all [-List.getD_eq_getElem?_getD] <;> omega))
end Go.Proofs.YtnheodgffackoaaDoor.E
