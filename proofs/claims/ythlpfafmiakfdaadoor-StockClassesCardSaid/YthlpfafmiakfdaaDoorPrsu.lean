/- Package chandleryref12: Push, Fill, Of, Spill. -/
import Derived.Test.YthlpfafmiakfdaaDoorL12e
namespace Go.Proofs.YthlpfafmiakfdaaDoor.E
set_option linter.unusedSimpArgs false
set_option linter.unusedVariables false
open Go
set_option maxRecDepth 100000
/-- A pile of the law's own: a row, so many of it. -/
structure LP where
  xs : List Blk
  m : Nat
def LP.pile (l : LP) : List Blk := l.xs.take l.m
def pushL (c : Cnf) (k : Int) (l : LP) (b : Blk) : LP := if inB c k b ∧ b ∉ l.pile then ⟨l.pile ++ [b], l.m + 1⟩ else l
theorem LP.len {l : LP} (h : l.m ≤ l.xs.length) : l.pile.length = l.m := by unfold LP.pile; rw [List.length_take]; omega
theorem pushL_le {c : Cnf} {k : Int} {l : LP} {b : Blk} (h : l.m ≤ l.xs.length) : (pushL c k l b).m ≤ (pushL c k l b).xs.length ∧ (pushL c k l b).m ≤ l.m + 1 ∧ (pushL c k l b).pile = if inB c k b ∧ b ∉ l.pile then l.pile ++ [b] else l.pile := by
  unfold pushL
  by_cases hb : inB c k b ∧ b ∉ l.pile
  · rw [if_pos hb, if_pos hb]
    have := LP.len h
    refine ⟨by simp; omega, Nat.le_refl _, ?_⟩
    show (l.pile ++ [b]).take (l.m + 1) = _
    exact List.take_of_length_le (by simp; omega)
  · rw [if_neg hb, if_neg hb]; exact ⟨h, by omega, rfl⟩
theorem rpush_tri (own : Bool) (c : Cnf) (h : c.Ok) (k : Int) (l : LP) (b : Blk) (hl : l.m ≤ l.xs.length) (hs : l.m ≤ 1000000) : Tri En 25 [cnfA 0 c, .int .i64 k, .slice 1 0 l.m, blkA b] [.tab own (.int .i64) c.cl, .tab true BlkK l.xs] (.tuple [.slice 2 0 (pushL c k l b).m, .bl (decide (inB c k b ∧ b ∉ l.pile))]) [.tab own (.int .i64) c.cl, .gone, .tab true BlkK (pushL c k l b).xs] := by
  have h1 := radr_tri own c h k b
  by_cases hb : inB c k b
  · obtain ⟨e1, e2⟩ := adrN_pos h hb
    have h2 := rsHas_tri true l.xs b l.m hl hs
    by_cases hm : b ∈ l.pile
    · have e : pushL c k l b = l := if_neg fun hh => hh.2 hm
      rw [e, decide_eq_false fun hh => hh.2 hm]
      rw [decide_eq_true (show b ∈ l.xs.take l.m from hm)] at h2
      obtain ⟨xs, m⟩ := l
      simp only at hl hs h2
      generalize adrN c k b = x at *
      refine Tri.of Tryd.func25 rfl Tryd.call25 rfl ?_
      refine Goods.fin 2000 [.c (.of h1), .s 14 (some false) true true, .c (.of h2)] mixed Tryd.func25 ?_
      show Yes _
      repeat' apply And.intro
      (all_goals first | rfl | assumption | trivial | omega | (simp [-List.getD_eq_getElem?_getD] <;> omega) | (simp (disch := omega) only [w64, wu64] <;> omega) | (simp (disch := omega) [-List.getD_eq_getElem?_getD, List.getD_cons_zero, List.getD_cons_succ, kCast_self, dfl_pair, dfl_int, w64, wu64] <;> omega) | (rw [Bool.eq_iff_iff]; simp (disch := omega) [-List.getD_eq_getElem?_getD, List.getD_cons_zero, List.getD_cons_succ, kCast_self, dfl_pair, dfl_int, w64, wu64] <;> omega) | (simp_all [-List.getD_eq_getElem?_getD] <;> omega))
    · have e : pushL c k l b = ⟨l.pile ++ [b], l.m + 1⟩ := if_pos ⟨hb, hm⟩
      rw [e, decide_eq_true ⟨hb, hm⟩]
      rw [decide_eq_false (show ¬ b ∈ l.xs.take l.m from hm)] at h2
      have ep : l.pile = l.xs.take l.m := rfl
      rw [ep]
      obtain ⟨xs, m⟩ := l
      simp only at hl hs h2
      generalize adrN c k b = x at *
      refine Tri.of Tryd.func25 rfl Tryd.call25 rfl ?_
      refine Goods.fin 2000 [.c (.of h1), .s 14 (some false) true true, .c (.of h2), .s 23 none true false] mixed Tryd.func25 ?_
      show Yes _
      repeat' apply And.intro
      (all_goals first | rfl | assumption | trivial | omega | (simp [-List.getD_eq_getElem?_getD] <;> omega) | (simp (disch := omega) only [w64, wu64] <;> omega) | (simp (disch := omega) [-List.getD_eq_getElem?_getD, List.getD_cons_zero, List.getD_cons_succ, kCast_self, dfl_pair, dfl_int, w64, wu64] <;> omega) | (rw [Bool.eq_iff_iff]; simp (disch := omega) [-List.getD_eq_getElem?_getD, List.getD_cons_zero, List.getD_cons_succ, kCast_self, dfl_pair, dfl_int, w64, wu64] <;> omega) | (simp_all [-List.getD_eq_getElem?_getD] <;> omega))
  · have e : pushL c k l b = l := if_neg fun hh => hb hh.1
    rw [e, decide_eq_false fun hh => hb hh.1]
    rw [(adrN_zero h).2 hb] at h1
    obtain ⟨xs, m⟩ := l
    simp only at hl hs
    refine Tri.of Tryd.func25 rfl Tryd.call25 rfl ?_
    refine Goods.fin 2000 [.c (.of h1), .s 14 (some true) true true] mixed Tryd.func25 ?_
    show Yes _
    repeat' apply And.intro
    (all_goals first | rfl | assumption | trivial | omega | (simp [-List.getD_eq_getElem?_getD] <;> omega) | (simp (disch := omega) only [w64, wu64] <;> omega) | (simp (disch := omega) [-List.getD_eq_getElem?_getD, List.getD_cons_zero, List.getD_cons_succ, kCast_self, dfl_pair, dfl_int, w64, wu64] <;> omega) | (rw [Bool.eq_iff_iff]; simp (disch := omega) [-List.getD_eq_getElem?_getD, List.getD_cons_zero, List.getD_cons_succ, kCast_self, dfl_pair, dfl_int, w64, wu64] <;> omega) | (simp_all [-List.getD_eq_getElem?_getD] <;> omega))
def belowB (m k : Nat) : List Nat := (List.range k).filter (m.testBit ·)
theorem belowB_succ (m k : Nat) : belowB m (k + 1) = belowB m k ++ if m.testBit k then [k] else [] := by
  unfold belowB
  rw [List.range_succ, List.filter_append]
  congr 1
  cases h : m.testBit k <;> simp [h]
def fillLP (c : Cnf) (k : Int) (super : Int) (m j : Nat) (l : LP) : LP := ((belowB m j).reverse.map fun x : Nat => ((super : Int), (x : Int))).foldl (pushL c k) l
noncomputable abbrev gRfl (own : Bool) (c : Cnf) (l0 l' : LP) : Frm := ⟨En, 26, Tryd.f26.ntmps, [.tab own (.int .i64) c.cl, .tab true BlkK l0.xs], .slice 2 0 l'.m, [.tab own (.int .i64) c.cl, .gone, .tab true BlkK l'.xs]⟩
theorem rfl_0 (own : Bool) (c : Cnf) (h : c.Ok) (k super : Int) (m : Nat) (hm : m < 18446744073709551616) (l0 l' : LP) : ∀ (j : Nat) (l : LP), j ≤ 64 → l.m ≤ l.xs.length → l.m + j ≤ 1000000 → l' = fillLP c k super m j l →
    Goods (gRfl own c l0 l') ⟨.none, lp Tryd.f26 0, [(1, .int .i64 k), (2, .slice 2 0 l.m), (3, .int .i64 super), (4, .int .u64 m), (5, .ptr 3 0 0), (11, .int .i64 ((j : Int) - 1))], hp [.tab own (.int .i64) c.cl, .gone, .tab true BlkK l.xs, cnfC c]⟩
  | 0, l, _, hl, hs, he => by
    obtain rfl : l' = l := he.trans (by simp [fillLP, belowB])
    refine Goods.fin 2000 [.b false] mixed Tryd.func26 ?_
    show Yes _
    repeat' apply And.intro
    (all_goals first | rfl | assumption | trivial | omega | (simp [-List.getD_eq_getElem?_getD] <;> omega) | (simp (disch := omega) only [w64, wu64] <;> omega) | (simp (disch := omega) [-List.getD_eq_getElem?_getD, List.getD_cons_zero, List.getD_cons_succ, kCast_self, dfl_pair, dfl_int, w64, wu64] <;> omega) | (rw [Bool.eq_iff_iff]; simp (disch := omega) [-List.getD_eq_getElem?_getD, List.getD_cons_zero, List.getD_cons_succ, kCast_self, dfl_pair, dfl_int, w64, wu64] <;> omega) | (simp_all [-List.getD_eq_getElem?_getD] <;> omega))
  | j + 1, l, hj, hl, hs, he => by
    have hh := rhas_tri m hm (j : Int)
    rw [hasN_nat (show j < 64 by omega)] at hh
    have e : fillLP c k super m (j + 1) l = fillLP c k super m j (if m.testBit j then pushL c k l (super, j) else l) := by
      unfold fillLP
      rw [belowB_succ]
      split <;> simp
    rw [e] at he
    have e2 : (((j + 1 : Nat) : Int) - 1) = (j : Int) := by omega
    rw [e2]
    cases hb : m.testBit j with
    | true =>
      rw [hb] at hh he
      simp only [if_true] at he
      have h1 := rpush_tri own c h k l (super, j) hl (by omega)
      obtain ⟨p1, p2, _⟩ := pushL_le (c := c) (k := k) (b := (super, (j : Int))) hl
      have ih := rfl_0 own c h k super m hm l0 l' j (pushL c k l (super, j)) (by omega) p1 (by omega) he
      generalize pushL c k l (super, (j : Int)) = l2 at *
      generalize decide (inB c k (super, (j : Int)) ∧ ((super, (j : Int)) : Blk) ∉ l.pile) = ok at *
      refine Goods.to 2000 [.b true, .c (.of hh), .b true, .c (.of h1), .l, .stop] mixed (ih) (by kernel_rfl) ?_
      show Yes _
      repeat' apply And.intro
      (all_goals first | rfl | assumption | trivial | omega | (simp [-List.getD_eq_getElem?_getD] <;> omega) | (simp (disch := omega) only [w64, wu64] <;> omega) | (simp (disch := omega) [-List.getD_eq_getElem?_getD, List.getD_cons_zero, List.getD_cons_succ, kCast_self, dfl_pair, dfl_int, w64, wu64] <;> omega) | (rw [Bool.eq_iff_iff]; simp (disch := omega) [-List.getD_eq_getElem?_getD, List.getD_cons_zero, List.getD_cons_succ, kCast_self, dfl_pair, dfl_int, w64, wu64] <;> omega) | (simp_all [-List.getD_eq_getElem?_getD] <;> omega))
    | false =>
      rw [hb] at hh he
      have ih := rfl_0 own c h k super m hm l0 l' j l (by omega) hl (by omega) he
      refine Goods.to 2000 [.b true, .c (.of hh), .b false, .l, .stop] mixed (ih) (by kernel_rfl) ?_
      show Yes _
      repeat' apply And.intro
      (all_goals first | rfl | assumption | trivial | omega | (simp [-List.getD_eq_getElem?_getD] <;> omega) | (simp (disch := omega) only [w64, wu64] <;> omega) | (simp (disch := omega) [-List.getD_eq_getElem?_getD, List.getD_cons_zero, List.getD_cons_succ, kCast_self, dfl_pair, dfl_int, w64, wu64] <;> omega) | (rw [Bool.eq_iff_iff]; simp (disch := omega) [-List.getD_eq_getElem?_getD, List.getD_cons_zero, List.getD_cons_succ, kCast_self, dfl_pair, dfl_int, w64, wu64] <;> omega) | (simp_all [-List.getD_eq_getElem?_getD] <;> omega))
theorem rfill_tri (own : Bool) (c : Cnf) (h : c.Ok) (k super : Int) (m : Nat) (hm : m < 18446744073709551616) (l : LP) (hl : l.m ≤ l.xs.length) (hs : l.m ≤ 900000) : Tri En 26 [cnfA 0 c, .int .i64 k, .slice 1 0 l.m, .int .i64 super, .int .u64 m] [.tab own (.int .i64) c.cl, .tab true BlkK l.xs] (.slice 2 0 (fillLP c k super m 64 l).m) [.tab own (.int .i64) c.cl, .gone, .tab true BlkK (fillLP c k super m 64 l).xs] := by
  have ih := rfl_0 own c h k super m hm l (fillLP c k super m 64 l) 64 l (Nat.le_refl _) hl (by omega) rfl
  rw [show ((64 : Nat) : Int) - 1 = 63 by omega] at ih
  refine Tri.of Tryd.func26 rfl Tryd.call26 rfl ?_
  refine Goods.to 2000 [.l, .stop] mixed (ih) (by kernel_rfl) ?_
  show Yes _
  repeat' apply And.intro
  (all_goals first | rfl | assumption | trivial | omega | (simp [-List.getD_eq_getElem?_getD] <;> omega) | (simp (disch := omega) only [w64, wu64] <;> omega) | (simp (disch := omega) [-List.getD_eq_getElem?_getD, List.getD_cons_zero, List.getD_cons_succ, kCast_self, dfl_pair, dfl_int, w64, wu64] <;> omega) | (rw [Bool.eq_iff_iff]; simp (disch := omega) [-List.getD_eq_getElem?_getD, List.getD_cons_zero, List.getD_cons_succ, kCast_self, dfl_pair, dfl_int, w64, wu64] <;> omega) | (simp_all [-List.getD_eq_getElem?_getD] <;> omega))
def ofL (l : List Blk) (s : Int) : List Int := (l.filter fun b => decide (b.1 = s)).map (·.2)
theorem ofL_len (l : List Blk) (s : Int) : (ofL l s).length = numB l s := by simp [ofL, numB]
theorem ofL_snoc (l : List Blk) (b : Blk) (s : Int) : ofL (l ++ [b]) s = if b.1 = s then ofL l s ++ [b.2] else ofL l s := by
  unfold ofL
  rw [List.filter_append, List.map_append]
  by_cases hb : b.1 = s
  · rw [if_pos hb]; simp [hb]
  · rw [if_neg hb]; simp [hb]
noncomputable abbrev gRofB (own : Bool) (xs : List Blk) (s : Int) (n : Nat) : Frm := ⟨En, 39, Tryd.f39.ntmps, [.tab own BlkK xs], .slice 1 0 (ofL (xs.take n) s).length, [.tab own BlkK xs, .tab true (.int .i64) (ofL (xs.take n) s)]⟩
theorem rofB_0 (own : Bool) (xs : List Blk) (s : Int) (n : Nat) (hn : n ≤ xs.length) (hs : n ≤ 1000000) : ∀ (j i : Nat), i + j = n →
    Goods (gRofB own xs s n) ⟨.none, lp Tryd.f39 0, [(0, .slice 0 0 n), (1, .int .i64 s), (5, .slice 1 0 (ofL (xs.take i) s).length), (6, .int .i64 i)], hp [.tab own BlkK xs, .tab true (.int .i64) (ofL (xs.take i) s)]⟩
  | 0, i, hi => by
    obtain rfl : i = n := by omega
    refine Goods.fin 2000 [.b false] mixed Tryd.func39 ?_
    show Yes _
    repeat' apply And.intro
    (all_goals first | rfl | assumption | trivial | omega | (simp [-List.getD_eq_getElem?_getD] <;> omega) | (simp (disch := omega) only [w64, wu64] <;> omega) | (simp (disch := omega) [-List.getD_eq_getElem?_getD, List.getD_cons_zero, List.getD_cons_succ, kCast_self, dfl_pair, dfl_int, w64, wu64] <;> omega) | (rw [Bool.eq_iff_iff]; simp (disch := omega) [-List.getD_eq_getElem?_getD, List.getD_cons_zero, List.getD_cons_succ, kCast_self, dfl_pair, dfl_int, w64, wu64] <;> omega) | (simp_all [-List.getD_eq_getElem?_getD] <;> omega))
  | j + 1, i, hi => by
    have ih := rofB_0 own xs s n hn hs j (i + 1) (by omega)
    have hsn := takeB_snoc (l := xs) (k := i) (by omega)
    have hle : (ofL (xs.take i) s).length ≤ i := by rw [ofL_len]; exact Nat.le_trans (numB_le _ _) (by simp; omega)
    rw [hsn, ofL_snoc] at ih
    generalize ofL (xs.take n) s = L at *
    generalize ofL (xs.take i) s = l at *
    by_cases hb : (bAt xs i).1 = s
    · rw [if_pos hb, List.length_append] at ih
      generalize hB : bAt xs i = b at *
      refine Goods.to 2000 [.b true, .b true, .l, .stop] mixed (ih) (by kernel_rfl) ?_
      show Yes _
      repeat' apply And.intro
      (all_goals first | rfl | assumption | trivial | omega | (simp [-List.getD_eq_getElem?_getD, hB] <;> omega) | (simp (disch := omega) only [w64, wu64] <;> omega) | (simp (disch := omega) [-List.getD_eq_getElem?_getD, List.getD_cons_zero, List.getD_cons_succ, kCast_self, dfl_pair, dfl_int, w64, wu64, hB] <;> omega) | (rw [Bool.eq_iff_iff]; simp (disch := omega) [-List.getD_eq_getElem?_getD, List.getD_cons_zero, List.getD_cons_succ, kCast_self, dfl_pair, dfl_int, w64, wu64, hB] <;> omega) | (simp_all [-List.getD_eq_getElem?_getD] <;> omega))
    · rw [if_neg hb] at ih
      generalize hB : bAt xs i = b at *
      refine Goods.to 2000 [.b true, .b false, .l, .stop] mixed (ih) (by kernel_rfl) ?_
      show Yes _
      repeat' apply And.intro
      (all_goals first | rfl | assumption | trivial | omega | (simp [-List.getD_eq_getElem?_getD, hB] <;> omega) | (simp (disch := omega) only [w64, wu64] <;> omega) | (simp (disch := omega) [-List.getD_eq_getElem?_getD, List.getD_cons_zero, List.getD_cons_succ, kCast_self, dfl_pair, dfl_int, w64, wu64, hB] <;> omega) | (rw [Bool.eq_iff_iff]; simp (disch := omega) [-List.getD_eq_getElem?_getD, List.getD_cons_zero, List.getD_cons_succ, kCast_self, dfl_pair, dfl_int, w64, wu64, hB] <;> omega) | (simp_all [-List.getD_eq_getElem?_getD] <;> omega))
theorem rofB_tri (own : Bool) (xs : List Blk) (s : Int) (n : Nat) (hn : n ≤ xs.length) (hs : n ≤ 1000000) : Tri En 39 [.slice 0 0 n, .int .i64 s] [.tab own BlkK xs] (.slice 1 0 (ofL (xs.take n) s).length) [.tab own BlkK xs, .tab true (.int .i64) (ofL (xs.take n) s)] := by
  have ih := rofB_0 own xs s n hn hs n 0 (by omega)
  refine Tri.of Tryd.func39 rfl Tryd.call39 rfl ?_
  refine Goods.to 2000 [.l, .stop] mixed (ih) (by kernel_rfl) ?_
  show Yes _
  repeat' apply And.intro
  (all_goals first | rfl | assumption | trivial | omega | (simp [-List.getD_eq_getElem?_getD] <;> omega) | (simp (disch := omega) only [w64, wu64] <;> omega) | (simp (disch := omega) [-List.getD_eq_getElem?_getD, List.getD_cons_zero, List.getD_cons_succ, kCast_self, dfl_pair, dfl_int, w64, wu64] <;> omega) | (rw [Bool.eq_iff_iff]; simp (disch := omega) [-List.getD_eq_getElem?_getD, List.getD_cons_zero, List.getD_cons_succ, kCast_self, dfl_pair, dfl_int, w64, wu64] <;> omega) | (simp_all [-List.getD_eq_getElem?_getD] <;> omega))
/-- Of which of the first superblocks there are most. -/
def bestB (l : List Blk) : Nat → Nat
  | 0 => 0
  | s + 1 => if numB l (bestB l s) < numB l (s : Nat) then s else bestB l s
theorem bestB_spec (l : List Blk) : ∀ s : Nat, 1 ≤ s → bestB l s < s ∧ ∀ y : Nat, y < s → numB l y < numB l (bestB l s) ∨ (numB l y = numB l (bestB l s) ∧ bestB l s ≤ y)
  | 0, h => by omega
  | s + 1, _ => by
    simp only [bestB]
    rcases Nat.eq_zero_or_pos s with rfl | hs
    · have e : (if numB l ((bestB l 0 : Nat) : Int) < numB l ((0 : Nat) : Int) then 0 else bestB l 0) = 0 := by split <;> rfl
      rw [e]
      refine ⟨by omega, fun y hy => ?_⟩
      obtain rfl : y = 0 := by omega
      exact .inr ⟨rfl, Nat.le_refl _⟩
    · obtain ⟨h1, h2⟩ := bestB_spec l s hs
      split
      · rename_i hlt
        refine ⟨by omega, fun y hy => ?_⟩
        by_cases hys : y = s
        · subst hys; exact .inr ⟨rfl, Nat.le_refl _⟩
        · have := h2 y (by omega); omega
      · rename_i hge
        refine ⟨by omega, fun y hy => ?_⟩
        by_cases hys : y = s
        · subst hys
          rcases Nat.lt_or_ge (numB l (y : Nat)) (numB l (bestB l y)) with hq | hq
          · exact .inl hq
          · exact .inr ⟨by omega, by omega⟩
        · exact h2 y (by omega)
theorem bestB_best {l : List Blk} {S : Nat} (hl : l ≠ []) (hS : ∀ b ∈ l, 0 ≤ b.1 ∧ b.1 < (S : Int)) : isBest l (bestB l S : Nat) := by
  obtain ⟨b0, l', rfl⟩ := List.exists_cons_of_ne_nil hl
  have hb0 := hS b0 (by simp)
  obtain ⟨h1, h2⟩ := bestB_spec (b0 :: l') S (by omega)
  generalize bestB (b0 :: l') S = x at *
  have hn : ∀ y : Int, 0 < numB (b0 :: l') y → ∃ z : Nat, y = z ∧ z < S := fun y hy => by
    obtain ⟨b, hb, rfl⟩ := numB_pos.1 hy
    have := hS b hb
    exact ⟨b.1.toNat, by omega, by omega⟩
  refine ⟨?_, fun y hy => ?_⟩
  · have h3 : 0 < numB (b0 :: l') b0.1 := numB_pos.2 ⟨b0, by simp, rfl⟩
    obtain ⟨z, hz, hzS⟩ := hn _ h3
    rw [hz] at h3
    have := h2 z hzS
    omega
  · obtain ⟨z, rfl, hz⟩ := hn y hy
    have := h2 z hz
    omega
noncomputable abbrev gRsp (own : Bool) (c : Cnf) (xs : List Blk) (n : Nat) (sup : Nat) : Frm := ⟨En, 27, Tryd.f27.ntmps, [.tab own (.int .i64) c.cl, .tab true BlkK xs], .tuple [.slice 2 0 (keepL sup (xs.take n)).length, .int .i64 sup, .int .u64 (setI (ofL (xs.take n) sup)), .bl true], [.tab own (.int .i64) c.cl, .gone, .tab true BlkK (keepL sup (xs.take n))]⟩
theorem rsp_2 (own : Bool) (c : Cnf) (xs : List Blk) (n : Nat) (sup : Nat) (hn : n ≤ xs.length) (hs : n ≤ 1000000) : ∀ (j i : Nat), i + j = n →
    Goods (gRsp own c xs n sup) ⟨.none, lp Tryd.f27 1, [(1, .slice 1 0 n), (8, .int .i64 sup), (10, .slice 2 0 (keepL sup (xs.take i)).length), (11, .int .i64 i)], hp [.tab own (.int .i64) c.cl, .tab true BlkK xs, .tab true BlkK (keepL sup (xs.take i))]⟩
  | 0, i, hi => by
    obtain rfl : i = n := by omega
    have h1 := rofB_tri true xs sup i hn hs
    have hle : (ofL (xs.take i) sup).length ≤ i := by rw [ofL_len]; exact Nat.le_trans (numB_le _ _) (by simp; omega)
    have h2 := rof_tri true (ofL (xs.take i) sup) (ofL (xs.take i) sup).length (Nat.le_refl _) (by omega)
    rw [List.take_length] at h2
    refine Goods.fin 2000 [.b false, .c (.of h1), .c (.of h2)] mixed Tryd.func27 ?_
    show Yes _
    repeat' apply And.intro
    (all_goals first | rfl | assumption | trivial | omega | (simp [-List.getD_eq_getElem?_getD] <;> omega) | (simp (disch := omega) only [w64, wu64] <;> omega) | (simp (disch := omega) [-List.getD_eq_getElem?_getD, List.getD_cons_zero, List.getD_cons_succ, kCast_self, dfl_pair, dfl_int, w64, wu64] <;> omega) | (rw [Bool.eq_iff_iff]; simp (disch := omega) [-List.getD_eq_getElem?_getD, List.getD_cons_zero, List.getD_cons_succ, kCast_self, dfl_pair, dfl_int, w64, wu64] <;> omega) | (simp_all [-List.getD_eq_getElem?_getD] <;> omega))
  | j + 1, i, hi => by
    have ih := rsp_2 own c xs n sup hn hs j (i + 1) (by omega)
    have hsn := takeB_snoc (l := xs) (k := i) (by omega)
    have hle : (keepL (sup : Int) (xs.take i)).length ≤ i := Nat.le_trans (List.length_filter_le ..) (by simp; omega)
    rw [hsn, keepL_snoc] at ih
    generalize keepL (sup : Int) (xs.take i) = l at *
    by_cases hb : (bAt xs i).1 = sup
    · rw [if_pos hb] at ih
      generalize hB : bAt xs i = b at *
      refine Goods.to 2000 [.b true, .b false, .l, .stop] mixed (ih) (by kernel_rfl) ?_
      show Yes _
      repeat' apply And.intro
      (all_goals first | rfl | assumption | trivial | omega | (simp [-List.getD_eq_getElem?_getD, hB] <;> omega) | (simp (disch := omega) only [w64, wu64] <;> omega) | (simp (disch := omega) [-List.getD_eq_getElem?_getD, List.getD_cons_zero, List.getD_cons_succ, kCast_self, dfl_pair, dfl_int, w64, wu64, hB] <;> omega) | (rw [Bool.eq_iff_iff]; simp (disch := omega) [-List.getD_eq_getElem?_getD, List.getD_cons_zero, List.getD_cons_succ, kCast_self, dfl_pair, dfl_int, w64, wu64, hB] <;> omega) | (simp_all [-List.getD_eq_getElem?_getD] <;> omega))
    · rw [if_neg hb, List.length_append] at ih
      generalize hB : bAt xs i = b at *
      refine Goods.to 2000 [.b true, .b true, .l, .stop] mixed (ih) (by kernel_rfl) ?_
      show Yes _
      repeat' apply And.intro
      (all_goals first | rfl | assumption | trivial | omega | (simp [-List.getD_eq_getElem?_getD, hB] <;> omega) | (simp (disch := omega) only [w64, wu64] <;> omega) | (simp (disch := omega) [-List.getD_eq_getElem?_getD, List.getD_cons_zero, List.getD_cons_succ, kCast_self, dfl_pair, dfl_int, w64, wu64, hB] <;> omega) | (rw [Bool.eq_iff_iff]; simp (disch := omega) [-List.getD_eq_getElem?_getD, List.getD_cons_zero, List.getD_cons_succ, kCast_self, dfl_pair, dfl_int, w64, wu64, hB] <;> omega) | (simp_all [-List.getD_eq_getElem?_getD] <;> omega))
theorem rsp_1 (own : Bool) (c : Cnf) (h : c.Ok) (S : Nat) (hS : (S : Int) = c.s) (xs : List Blk) (n : Nat) (hn : n ≤ xs.length) (hs : n ≤ 1000000) : ∀ (j i : Nat), i + j = S → 1 ≤ i →
    Goods (gRsp own c xs n (bestB (xs.take n) S)) ⟨.none, lp Tryd.f27 0, [(1, .slice 1 0 n), (2, .ptr 2 0 0), (8, .int .i64 (bestB (xs.take n) i : Nat)), (9, .int .i64 i)], hp [.tab own (.int .i64) c.cl, .tab true BlkK xs, cnfC c]⟩
  | 0, i, hi, h1 => by
    obtain rfl : i = S := by omega
    have ih := rsp_2 own c xs n (bestB (xs.take n) i) hn hs n 0 (by omega)
    generalize bestB (xs.take n) i = sup at *
    refine Goods.to 2000 [.b false, .l, .stop] mixed (ih) (by kernel_rfl) ?_
    show Yes _
    repeat' apply And.intro
    (all_goals first | rfl | assumption | trivial | omega | (simp [-List.getD_eq_getElem?_getD] <;> omega) | (simp (disch := omega) only [w64, wu64] <;> omega) | (simp (disch := omega) [-List.getD_eq_getElem?_getD, List.getD_cons_zero, List.getD_cons_succ, kCast_self, dfl_pair, dfl_int, w64, wu64] <;> omega) | (rw [Bool.eq_iff_iff]; simp (disch := omega) [-List.getD_eq_getElem?_getD, List.getD_cons_zero, List.getD_cons_succ, kCast_self, dfl_pair, dfl_int, w64, wu64] <;> omega) | (simp_all [-List.getD_eq_getElem?_getD] <;> omega))
  | j + 1, i, hi, h1 => by
    have s1 := h.s1
    have ih := rsp_1 own c h S hS xs n hn hs j (i + 1) (by omega) (by omega)
    have a1 := rofB_tri true xs i n hn hs
    have a2 := rofB_tri true xs (bestB (xs.take n) i : Nat) n hn hs
    rw [ofL_len] at a1 a2
    have b1 := numB_le (xs.take n) (i : Nat)
    have b2 := numB_le (xs.take n) (bestB (xs.take n) i : Nat)
    have hlen : (xs.take n).length ≤ 1000000 := by simp; omega
    simp only [bestB] at ih
    generalize bestB (xs.take n) S = SS at *
    generalize bestB (xs.take n) i = x at *
    generalize ofL (xs.take n) (i : Nat) = o1 at *
    generalize ofL (xs.take n) (x : Nat) = o2 at *
    generalize numB (xs.take n) (i : Nat) = q1 at *
    generalize numB (xs.take n) (x : Nat) = q2 at *
    by_cases hq : q2 < q1
    · rw [if_pos hq] at ih
      refine Goods.to 2000 [.b true, .c (.of a1), .c (.of a2), .b true, .l, .stop] mixed (ih) (by kernel_rfl) ?_
      show Yes _
      repeat' apply And.intro
      (all_goals first | rfl | assumption | trivial | omega | (simp [-List.getD_eq_getElem?_getD] <;> omega) | (simp (disch := omega) only [w64, wu64] <;> omega) | (simp (disch := omega) [-List.getD_eq_getElem?_getD, List.getD_cons_zero, List.getD_cons_succ, kCast_self, dfl_pair, dfl_int, w64, wu64] <;> omega) | (rw [Bool.eq_iff_iff]; simp (disch := omega) [-List.getD_eq_getElem?_getD, List.getD_cons_zero, List.getD_cons_succ, kCast_self, dfl_pair, dfl_int, w64, wu64] <;> omega) | (simp_all [-List.getD_eq_getElem?_getD] <;> omega))
    · rw [if_neg hq] at ih
      refine Goods.to 2000 [.b true, .c (.of a1), .c (.of a2), .b false, .l, .stop] mixed (ih) (by kernel_rfl) ?_
      show Yes _
      repeat' apply And.intro
      (all_goals first | rfl | assumption | trivial | omega | (simp [-List.getD_eq_getElem?_getD] <;> omega) | (simp (disch := omega) only [w64, wu64] <;> omega) | (simp (disch := omega) [-List.getD_eq_getElem?_getD, List.getD_cons_zero, List.getD_cons_succ, kCast_self, dfl_pair, dfl_int, w64, wu64] <;> omega) | (rw [Bool.eq_iff_iff]; simp (disch := omega) [-List.getD_eq_getElem?_getD, List.getD_cons_zero, List.getD_cons_succ, kCast_self, dfl_pair, dfl_int, w64, wu64] <;> omega) | (simp_all [-List.getD_eq_getElem?_getD] <;> omega))
theorem rspill_yes (own : Bool) (c : Cnf) (h : c.Ok) (S : Nat) (hS : (S : Int) = c.s) (xs : List Blk) (n : Nat) (hn : n ≤ xs.length) (hs : n ≤ 1000000) (hm : 2 * c.b < (n : Int)) : Tri En 27 [cnfA 0 c, .slice 1 0 n] [.tab own (.int .i64) c.cl, .tab true BlkK xs] (.tuple [.slice 2 0 (keepL (bestB (xs.take n) S : Nat) (xs.take n)).length, .int .i64 (bestB (xs.take n) S : Nat), .int .u64 (setI (ofL (xs.take n) (bestB (xs.take n) S : Nat))), .bl true]) [.tab own (.int .i64) c.cl, .gone, .tab true BlkK (keepL (bestB (xs.take n) S : Nat) (xs.take n))] := by
  have b1 := h.b1
  have b0 := h.b0
  have s0 := h.s0
  have ih := rsp_1 own c h S hS xs n hn hs (S - 1) 1 (by omega) (Nat.le_refl _)
  have e : bestB (xs.take n) 1 = 0 := by simp [bestB]
  rw [e] at ih
  refine Tri.of Tryd.func27 rfl Tryd.call27 rfl ?_
  refine Goods.to 2000 [.b false, .l, .stop] mixed (ih) (by kernel_rfl) ?_
  show Yes _
  repeat' apply And.intro
  (all_goals first | rfl | assumption | trivial | omega | (simp [-List.getD_eq_getElem?_getD] <;> omega) | (simp (disch := omega) only [w64, wu64] <;> omega) | (simp (disch := omega) [-List.getD_eq_getElem?_getD, List.getD_cons_zero, List.getD_cons_succ, kCast_self, dfl_pair, dfl_int, w64, wu64] <;> omega) | (rw [Bool.eq_iff_iff]; simp (disch := omega) [-List.getD_eq_getElem?_getD, List.getD_cons_zero, List.getD_cons_succ, kCast_self, dfl_pair, dfl_int, w64, wu64] <;> omega) | (simp_all [-List.getD_eq_getElem?_getD] <;> omega))
theorem rspill_no (own : Bool) (c : Cnf) (h : c.Ok) (xs : List Blk) (n : Nat) (hn : n ≤ xs.length) (hs : n ≤ 1000000) (hm : (n : Int) ≤ 2 * c.b) : Tri En 27 [cnfA 0 c, .slice 1 0 n] [.tab own (.int .i64) c.cl, .tab true BlkK xs] (.tuple [.slice 2 0 n, .int .i64 0, .int .u64 0, .bl false]) [.tab own (.int .i64) c.cl, .gone, .tab true BlkK xs] := by
  have b1 := h.b1
  have b0 := h.b0
  refine Tri.of Tryd.func27 rfl Tryd.call27 rfl ?_
  refine Goods.fin 2000 [.b true] mixed Tryd.func27 ?_
  show Yes _
  repeat' apply And.intro
  (all_goals first | rfl | assumption | trivial | omega | (simp [-List.getD_eq_getElem?_getD] <;> omega) | (simp (disch := omega) only [w64, wu64] <;> omega) | (simp (disch := omega) [-List.getD_eq_getElem?_getD, List.getD_cons_zero, List.getD_cons_succ, kCast_self, dfl_pair, dfl_int, w64, wu64] <;> omega) | (rw [Bool.eq_iff_iff]; simp (disch := omega) [-List.getD_eq_getElem?_getD, List.getD_cons_zero, List.getD_cons_succ, kCast_self, dfl_pair, dfl_int, w64, wu64] <;> omega) | (simp_all [-List.getD_eq_getElem?_getD] <;> omega))
/-- The document's set is the program's. -/
theorem mask_same (sup : Int) (es : TMap) : ∀ l : List Blk, (dlS sup ⟨0, es⟩ l).m = setI (ofL l sup) := by
  refine snocInd rfl fun l b ih => ?_
  rw [dlS_snoc, ofL_snoc]
  unfold delS
  by_cases hb : b.1 = sup
  · rw [if_pos hb, if_pos hb]
    show withN _ b.2 = _
    rw [ih]
    by_cases hx : 0 ≤ b.2 ∧ b.2 ≤ 63
    · rw [setI_snoc_in hx]; unfold withN; rw [if_pos hx]
    · rw [setI_snoc_out hx]; unfold withN; rw [if_neg hx]
  · rw [if_neg hb, if_neg hb, ih]
end Go.Proofs.YthlpfafmiakfdaaDoor.E
