/- The tag that is held; TagLeast, TagSame: the laws' contracts. -/
import Derived.Test.YtmnpjemapdmigaaDoorPscan
namespace Go.Proofs.YtmnpjemapdmigaaDoor.E
open Go
set_option maxRecDepth 100000

theorem hitsU_no {wk sl : Int} {used : List Int} {x : Int} (h : hitN wk sl x.toNat = false) : hitsU wk sl used x = used := by unfold hitsU; rw [h]; rfl
theorem hits_take (wk sl : Int) (ws : List Int) {k : Nat} (hk : k < ws.length) : hits wk sl (ws.take (k + 1)) = hitsU wk sl (hits wk sl (ws.take k)) (ws.getD k 0) := by
  rw [show ws.take (k + 1) = ws.take k ++ [ws.getD k 0] by rw [List.take_add_one]; simp [List.getD, hk], hits_snoc]
theorem hits_take_len (wk sl : Int) (ws : List Int) (k : Nat) : (hits wk sl (ws.take k)).length ≤ ws.length := Nat.le_trans (hits_len wk sl _) (by rw [List.length_take]; omega)
set_option maxHeartbeats 1000000 in
theorem speaks_tri : Tri En 8 [] [] (.bl true) [] := by
  have n0 := mem_new 2
  rw [show List.replicate (min (max (2 : Int) 0) 16777216).toNat (0 : Int) = [0, 0] by decide] at n0
  have o0 := of_yes 3 1 0 (by omega) (by omega) (by omega)
  have hr := (hit_ref 3 1 0 (by omega) (by omega) (by omega) (refN 3 1 0)).2 rfl
  have hlt := refN_lt 3 1 0
  generalize refN 3 1 0 = r at o0 hr hlt
  have s0 := mem_store ⟨[0, 0], 0, 0, 0, 0⟩ 1 r
  have hw0 : ((MemS.acc ⟨[0, 0], 0, 0, 0, 0⟩ 2 1).put 1 r).words = [0, (r : Int)] := by rw [MemS.put_words ⟨by decide, by decide⟩]; rfl
  obtain ⟨m, hm⟩ : ∃ m : MemS, (MemS.acc ⟨[0, 0], 0, 0, 0, 0⟩ 2 1).put 1 r = m := ⟨_, rfl⟩
  rw [hm] at s0 hw0
  have g0 : m.get ((0 : Nat) : Int) = ((0 : Nat) : Int) := by rw [MemS.get_in ⟨by omega, by rw [hw0]; show (0 : Int) < 2; omega⟩, hw0]; rfl
  have g1 : (m.acc 1 ((0 : Nat) : Int)).get ((1 : Nat) : Int) = ((r : Nat) : Int) := by
    rw [MemS.get_in ⟨by omega, by rw [MemS.acc_words, hw0]; show (1 : Int) < 2; omega⟩, MemS.acc_words, hw0]; rfl
  have t0 := scan_new m 0 2 3 1
  have p0 := step_tri m 0 1 3 1 [] (by omega) (by omega) 0 g0 (by omega) (by simp)
  have hz : hitsU 3 1 [] ((0 : Nat) : Int) = [] := hitsU_no (by rw [Int.toNat_natCast]; exact hit_zero 3 1)
  rw [hz] at p0
  have p1 := step_tri (m.acc 1 ((0 : Nat) : Int)) 1 0 3 1 [] (by omega) (by omega) r g1 hlt (by simp)
  have hh : hitsU 3 1 [] ((r : Nat) : Int) = [0] := by
    unfold hitsU
    rw [Int.toNat_natCast, if_pos (show hitN 3 1 r = true from hr.1), hr.2]; rfl
  rw [hh] at p1
  have l0 := least_tri true [0, 1, 3] (by simp)
  have q0 : leastT [0, 1, 3] = 2 := leastT_eq (fun j hj => by
    rcases (by omega : j = 0 ∨ j = 1) with rfl | rfl
    · simp
    · simp) (by simp)
  rw [q0] at l0
  have r0 := ref_tri ((m.acc 1 ((0 : Nat) : Int)).acc 1 ((1 : Nat) : Int)) 2 0 3 1 [0] (by simp)
  have q1 : leastT [0] = 1 := leastT_eq (fun j hj => by
    obtain rfl : j = 0 := by omega
    simp) (by simp)
  rw [q1] at r0
  refine Tri.of Tryd.func8 rfl Tryd.call8 rfl ?_
  refine Goods.fin 2000 [.c (.of n0), .c (.of o0), .c (.of s0), .c (.of t0), .c (.of (p0.bl (c := false) rfl)), .c (.of (p1.bl (c := true) rfl)), .c (.of l0), .s 22 (some true) true true, .c (.of r0)] mixed Tryd.func8 ?_
  show Yes _
  repeat' apply And.intro
  (all_goals first | rfl | assumption | trivial | omega | (simp [-List.getD_eq_getElem?_getD] <;> omega) | (simp (disch := omega) only [w64, wu64] <;> omega) | (simp (disch := omega) [-List.getD_eq_getElem?_getD, List.getD_cons_zero, List.getD_cons_succ, kCast_self, dfl_pair, dfl_int, w64, wu64] <;> omega) | (rw [Bool.eq_iff_iff]; simp (disch := omega) [-List.getD_eq_getElem?_getD, List.getD_cons_zero, List.getD_cons_succ, kCast_self, dfl_pair, dfl_int, w64, wu64] <;> omega) | (simp_all [-List.getD_eq_getElem?_getD] <;> omega))
noncomputable abbrev gLst (l : List Int) : Frm := ⟨En, 3, Tryd.f3.ntmps, [.tab false (.int .i64) l], .bl true, gones 1⟩
theorem lst_1 (l : List Int) (hl : l.length ≤ 300) (i : Nat) (hi : i ≤ leastT l)
    (next : Goods (gLst l) ⟨.none, lp Tryd.f3 0, [(0, .slice 0 0 l.length), (3, .int .i64 (leastT l)), (4, .int .i64 (i + 1 : Nat))], hp [.tab false (.int .i64) l]⟩) : ∀ (j k : Nat) (b : Bool), k + j = l.length → b = decide ((i : Int) ∈ l.take k) → Goods (gLst l) ⟨.none, lp Tryd.f3 1,
    [(0, .slice 0 0 l.length), (3, .int .i64 (leastT l)), (4, .int .i64 i), (5, .bl b), (28, .slice 0 0 l.length), (29, .int .i64 l.length), (30, .int .i64 k)], hp [.tab false (.int .i64) l]⟩
  | 0, k, b, h, hb => by
    obtain rfl : k = l.length := by omega
    rw [List.take_length] at hb
    have hle := (leastT_spec l).1
    have e : b = decide (i < leastT l) := by
      rw [hb, Bool.eq_iff_iff, decide_eq_true_eq, decide_eq_true_eq]
      constructor
      · intro hm
        apply Classical.byContradiction; intro hn
        obtain rfl : i = leastT l := by omega
        exact (leastT_spec l).2.2 hm
      · exact (leastT_spec l).2.1 i
    by_cases hlt : i < leastT l
    · obtain rfl : b = true := by simpa [hlt] using e
      refine Goods.to 2000 [.b false, .b false, .l, .stop] mixed (next) (by kernel_rfl) ?_
      show Yes _
      repeat' apply And.intro
      (all_goals first | rfl | assumption | trivial | omega | (simp [-List.getD_eq_getElem?_getD] <;> omega) | (simp (disch := omega) only [w64, wu64] <;> omega) | (simp (disch := omega) [-List.getD_eq_getElem?_getD, List.getD_cons_zero, List.getD_cons_succ, kCast_self, dfl_pair, dfl_int, w64, wu64] <;> omega) | (rw [Bool.eq_iff_iff]; simp (disch := omega) [-List.getD_eq_getElem?_getD, List.getD_cons_zero, List.getD_cons_succ, kCast_self, dfl_pair, dfl_int, w64, wu64] <;> omega) | (simp_all [-List.getD_eq_getElem?_getD] <;> omega))
    · obtain rfl : b = false := by simpa [hlt] using e
      refine Goods.to 2000 [.b false, .b false, .l, .stop] mixed (next) (by kernel_rfl) ?_
      show Yes _
      repeat' apply And.intro
      (all_goals first | rfl | assumption | trivial | omega | (simp [-List.getD_eq_getElem?_getD] <;> omega) | (simp (disch := omega) only [w64, wu64] <;> omega) | (simp (disch := omega) [-List.getD_eq_getElem?_getD, List.getD_cons_zero, List.getD_cons_succ, kCast_self, dfl_pair, dfl_int, w64, wu64] <;> omega) | (rw [Bool.eq_iff_iff]; simp (disch := omega) [-List.getD_eq_getElem?_getD, List.getD_cons_zero, List.getD_cons_succ, kCast_self, dfl_pair, dfl_int, w64, wu64] <;> omega) | (simp_all [-List.getD_eq_getElem?_getD] <;> omega))
  | j + 1, k, b, h, hb => by
    obtain ⟨x, hx⟩ : ∃ x, l.getD k 0 = x := ⟨_, rfl⟩
    have ht : l.take (k + 1) = l.take k ++ [x] := by rw [List.take_add_one, ← hx]; simp [List.getD, show k < l.length by omega]
    have hle := (leastT_spec l).1
    cases b with
    | true =>
      have ih := lst_1 l hl i hi next j (k + 1) true (by omega) (by rw [ht]; simpa using Or.inl (of_decide_eq_true hb.symm))
      refine Goods.to 2000 [.b true, .l, .stop] mixed (ih) (by kernel_rfl) ?_
      show Yes _
      repeat' apply And.intro
      (all_goals first | rfl | assumption | trivial | omega | (simp [-List.getD_eq_getElem?_getD, hx] <;> omega) | (simp (disch := omega) only [w64, wu64] <;> omega) | (simp (disch := omega) [-List.getD_eq_getElem?_getD, List.getD_cons_zero, List.getD_cons_succ, kCast_self, dfl_pair, dfl_int, w64, wu64, hx] <;> omega) | (rw [Bool.eq_iff_iff]; simp (disch := omega) [-List.getD_eq_getElem?_getD, List.getD_cons_zero, List.getD_cons_succ, kCast_self, dfl_pair, dfl_int, w64, wu64, hx] <;> omega) | (simp_all [-List.getD_eq_getElem?_getD] <;> omega))
    | false =>
      have hn := of_decide_eq_false hb.symm
      by_cases he : x = i
      · have ih := lst_1 l hl i hi next j (k + 1) true (by omega) (by rw [ht]; simp [he])
        refine Goods.to 2000 [.b true, .s 38 (some true) true true, .l, .stop] mixed (ih) (by kernel_rfl) ?_
        show Yes _
        repeat' apply And.intro
        (all_goals first | rfl | assumption | trivial | omega | (simp [-List.getD_eq_getElem?_getD, hx] <;> omega) | (simp (disch := omega) only [w64, wu64] <;> omega) | (simp (disch := omega) [-List.getD_eq_getElem?_getD, List.getD_cons_zero, List.getD_cons_succ, kCast_self, dfl_pair, dfl_int, w64, wu64, hx] <;> omega) | (rw [Bool.eq_iff_iff]; simp (disch := omega) [-List.getD_eq_getElem?_getD, List.getD_cons_zero, List.getD_cons_succ, kCast_self, dfl_pair, dfl_int, w64, wu64, hx] <;> omega) | (simp_all [-List.getD_eq_getElem?_getD] <;> omega))
      · have ih := lst_1 l hl i hi next j (k + 1) false (by omega) (by rw [ht]; simp [hn, show ¬ (i : Int) = x from fun h => he h.symm])
        refine Goods.to 2000 [.b true, .s 38 (some false) true true, .l, .stop] mixed (ih) (by kernel_rfl) ?_
        show Yes _
        repeat' apply And.intro
        (all_goals first | rfl | assumption | trivial | omega | (simp [-List.getD_eq_getElem?_getD, hx] <;> omega) | (simp (disch := omega) only [w64, wu64] <;> omega) | (simp (disch := omega) [-List.getD_eq_getElem?_getD, List.getD_cons_zero, List.getD_cons_succ, kCast_self, dfl_pair, dfl_int, w64, wu64, hx] <;> omega) | (rw [Bool.eq_iff_iff]; simp (disch := omega) [-List.getD_eq_getElem?_getD, List.getD_cons_zero, List.getD_cons_succ, kCast_self, dfl_pair, dfl_int, w64, wu64, hx] <;> omega) | (simp_all [-List.getD_eq_getElem?_getD] <;> omega))
theorem lst_0 (l : List Int) (hl : l.length ≤ 300) : ∀ (j i : Nat), i + j = leastT l + 1 → Goods (gLst l) ⟨.none, lp Tryd.f3 0, [(0, .slice 0 0 l.length), (3, .int .i64 (leastT l)), (4, .int .i64 i)], hp [.tab false (.int .i64) l]⟩
  | 0, i, h => by
    have hle := (leastT_spec l).1
    refine Goods.fin 2000 [.b false] mixed Tryd.func3 ?_
    show Yes _
    repeat' apply And.intro
    (all_goals first | rfl | assumption | trivial | omega | (simp [-List.getD_eq_getElem?_getD] <;> omega) | (simp (disch := omega) only [w64, wu64] <;> omega) | (simp (disch := omega) [-List.getD_eq_getElem?_getD, List.getD_cons_zero, List.getD_cons_succ, kCast_self, dfl_pair, dfl_int, w64, wu64] <;> omega) | (rw [Bool.eq_iff_iff]; simp (disch := omega) [-List.getD_eq_getElem?_getD, List.getD_cons_zero, List.getD_cons_succ, kCast_self, dfl_pair, dfl_int, w64, wu64] <;> omega) | (simp_all [-List.getD_eq_getElem?_getD] <;> omega))
  | j + 1, i, h => by
    have hle := (leastT_spec l).1
    have ih := lst_1 l hl i (by omega) (lst_0 l hl j (i + 1) (by omega)) l.length 0 false (by omega) (by simp)
    refine Goods.to 2000 [.b true, .l, .stop] mixed (ih) (by kernel_rfl) ?_
    show Yes _
    repeat' apply And.intro
    (all_goals first | rfl | assumption | trivial | omega | (simp [-List.getD_eq_getElem?_getD] <;> omega) | (simp (disch := omega) only [w64, wu64] <;> omega) | (simp (disch := omega) [-List.getD_eq_getElem?_getD, List.getD_cons_zero, List.getD_cons_succ, kCast_self, dfl_pair, dfl_int, w64, wu64] <;> omega) | (rw [Bool.eq_iff_iff]; simp (disch := omega) [-List.getD_eq_getElem?_getD, List.getD_cons_zero, List.getD_cons_succ, kCast_self, dfl_pair, dfl_int, w64, wu64] <;> omega) | (simp_all [-List.getD_eq_getElem?_getD] <;> omega))
theorem TagLeast_tri (l : List Int) (_ : l.length ≤ 9223372036854775807) : Tri En 3 [.slice 0 0 l.length] [.tab false (.int .i64) l] (.bl true) (gones 1) := by
  refine Tri.of Tryd.func3 rfl Tryd.call3 rfl ?_
  by_cases hl : l.length ≤ 300
  · have hle := (leastT_spec l).1
    have l0 := least_tri false l (by omega)
    have ih := lst_0 l hl (leastT l + 1) 0 (by omega)
    refine Goods.to 2000 [.c (.of speaks_tri), .b false, .c (.of l0), .s 17 (some false) true true, .b false, .l, .stop] mixed (ih) (by kernel_rfl) ?_
    show Yes _
    repeat' apply And.intro
    (all_goals first | rfl | assumption | trivial | omega | (simp [-List.getD_eq_getElem?_getD] <;> omega) | (simp (disch := omega) only [w64, wu64] <;> omega) | (simp (disch := omega) [-List.getD_eq_getElem?_getD, List.getD_cons_zero, List.getD_cons_succ, kCast_self, dfl_pair, dfl_int, w64, wu64] <;> omega) | (rw [Bool.eq_iff_iff]; simp (disch := omega) [-List.getD_eq_getElem?_getD, List.getD_cons_zero, List.getD_cons_succ, kCast_self, dfl_pair, dfl_int, w64, wu64] <;> omega) | (simp_all [-List.getD_eq_getElem?_getD] <;> omega))
  · refine Goods.fin 2000 [.c (.of speaks_tri), .b true] mixed Tryd.func3 ?_
    show Yes _
    repeat' apply And.intro
    (all_goals first | rfl | assumption | trivial | omega | (simp [-List.getD_eq_getElem?_getD] <;> omega) | (simp (disch := omega) only [w64, wu64] <;> omega) | (simp (disch := omega) [-List.getD_eq_getElem?_getD, List.getD_cons_zero, List.getD_cons_succ, kCast_self, dfl_pair, dfl_int, w64, wu64] <;> omega) | (rw [Bool.eq_iff_iff]; simp (disch := omega) [-List.getD_eq_getElem?_getD, List.getD_cons_zero, List.getD_cons_succ, kCast_self, dfl_pair, dfl_int, w64, wu64] <;> omega) | (simp_all [-List.getD_eq_getElem?_getD] <;> omega))
theorem TagLeast_law (d : dats ([(false, (.slice (.int .i64)))] : List (Bool × Sh))) (hd : datsOk ([(false, (.slice (.int .i64)))] : List (Bool × Sh)) d) : Tri En 3 (argsOf ([(false, (.slice (.int .i64)))] : List (Bool × Sh)) d 0) (objsOf ([(false, (.slice (.int .i64)))] : List (Bool × Sh)) d) (.bl true) (gones (cnts ([(false, (.slice (.int .i64)))] : List (Bool × Sh)))) := by
  obtain ⟨l, _⟩ := d
  obtain ⟨⟨h0, _⟩, _⟩ := hd
  exact TagLeast_tri l (maxLen_le h0)
end Go.Proofs.YtmnpjemapdmigaaDoor.E
