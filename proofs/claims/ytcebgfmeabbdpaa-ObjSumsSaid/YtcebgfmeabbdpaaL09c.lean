/- ObjParts, ObjUndoes, ObjSums: the laws' contracts. -/
import Derived.Test.YtcebgfmeabbdpaaL09b
namespace Go.Proofs.Ytcebgfmeabbdpaa.E
open Go
set_option maxRecDepth 100000

noncomputable abbrev gParts (l m : List (Int × Int)) : Frm := ⟨En, 5, Try.f5.ntmps, [.tab false OpK l, .tab false OpK m], .bl true, gones 2⟩
/-- The last loop: both stacks' words are one. -/
theorem parts_1 (l m : List (Int × Int)) (R : Nat) (hR : R ≤ 1000) (p : List Int) : ∀ (j k : Nat), k + j = 1 + R → Goods (gParts l m) ⟨.none, lp Try.f5 1,
    [(9, .slice 2 0 (1 + R)), (11, .slice 3 0 (1 + R)), (72, .int .i64 (1 + R : Nat)), (73, .int .i64 k)], hp [.gone, .gone, .tab true (.int .u64) (stW R p), .tab true (.int .u64) (stW R p)]⟩
  | 0, k, hk => by
    refine Goods.fin 2000 [.b false] mixed Try.func5 ?_
    show Yes _
    repeat' apply And.intro
    (all_goals first | rfl | assumption | trivial | omega | (simp [-List.getD_eq_getElem?_getD] <;> omega) | (simp (disch := omega) only [w64, wu64] <;> omega) | (simp (disch := omega) [-List.getD_eq_getElem?_getD, List.getD_cons_zero, List.getD_cons_succ, kCast_self, dfl_pair, dfl_int, w64, wu64] <;> omega) | (rw [Bool.eq_iff_iff]; simp (disch := omega) [-List.getD_eq_getElem?_getD, List.getD_cons_zero, List.getD_cons_succ, kCast_self, dfl_pair, dfl_int, w64, wu64] <;> omega) | (simp_all [-List.getD_eq_getElem?_getD] <;> omega))
  | j + 1, k, hk => by
    have ih := parts_1 l m R hR p j (k + 1) (by omega)
    have hl : (stW R p).length = 1 + R := tabW_len _ _
    refine Goods.to 2000 [.b true, .b false, .l, .stop] mixed (ih) (by kernel_rfl) ?_
    show Yes _
    repeat' apply And.intro
    (all_goals first | rfl | assumption | trivial | omega | (simp [-List.getD_eq_getElem?_getD] <;> omega) | (simp (disch := omega) only [w64, wu64] <;> omega) | (simp (disch := omega) [-List.getD_eq_getElem?_getD, List.getD_cons_zero, List.getD_cons_succ, kCast_self, dfl_pair, dfl_int, w64, wu64] <;> omega) | (rw [Bool.eq_iff_iff]; simp (disch := omega) [-List.getD_eq_getElem?_getD, List.getD_cons_zero, List.getD_cons_succ, kCast_self, dfl_pair, dfl_int, w64, wu64] <;> omega) | (simp_all [-List.getD_eq_getElem?_getD] <;> omega))
/-- The first loop: the second part, one by one. -/
theorem parts_0 (l m : List (Int × Int)) (r : Nat) (hr : r ≤ 255) (hl : l.length ≤ 100) (hm : m.length ≤ 100) (hom : ∀ o ∈ m, Op64 o) (p : List Int) (hpl : p.length ≤ roomN r) (az : List (Int × Int)) (ha : az.length = l.length) : ∀ (j k : Nat), k + j = m.length → Goods (gParts l m) ⟨.none, lp Try.f5 0,
    [(7, .ptr 2 0 0), (8, .slice 3 0 (l.length + m.length)), (9, .slice 4 0 (1 + roomN r)), (10, .slice 5 0 (l.length + k)), (11, .slice 6 0 (1 + roomN r)), (46, .slice 1 0 m.length), (47, .int .i64 m.length), (48, .int .i64 k)],
    hp [.gone, .tab false OpK m, .cells [.int .i64 r], .tab true OpK (az ++ (runO (stF (roomN r)) p m).2), .tab true (.int .u64) (stW (roomN r) (runO (stF (roomN r)) p m).1), .tab true OpK (az ++ (runO (stF (roomN r)) p (m.take k)).2), .tab true (.int .u64) (stW (roomN r) (runO (stF (roomN r)) p (m.take k)).1)]⟩
  | 0, k, hk => by
    obtain rfl : k = m.length := by omega
    rw [List.take_length]
    have hlen := runO_len (stF (roomN r)) m p
    have hs := same_tri true true (az ++ (runO (stF (roomN r)) p m).2) (by simp; omega)
    rw [List.length_append, hlen, ha] at hs
    have hR := roomN_le r
    have ih := parts_1 l m (roomN r) hR (runO (stF (roomN r)) p m).1 (1 + roomN r) 0 (by omega)
    refine Goods.to 2000 [.b false, .c (.of hs), .b false, .l, .stop] mixed (ih) (by kernel_rfl) ?_
    show Yes _
    repeat' apply And.intro
    (all_goals first | rfl | assumption | trivial | omega | (simp [-List.getD_eq_getElem?_getD] <;> omega) | (simp (disch := omega) only [w64, wu64] <;> omega) | (simp (disch := omega) [-List.getD_eq_getElem?_getD, List.getD_cons_zero, List.getD_cons_succ, kCast_self, dfl_pair, dfl_int, w64, wu64] <;> omega) | (rw [Bool.eq_iff_iff]; simp (disch := omega) [-List.getD_eq_getElem?_getD, List.getD_cons_zero, List.getD_cons_succ, kCast_self, dfl_pair, dfl_int, w64, wu64] <;> omega) | (simp_all [-List.getD_eq_getElem?_getD] <;> omega))
  | j + 1, k, hk => by
    have ih := parts_0 l m r hr hl hm hom p hpl az ha j (k + 1) (by omega)
    rw [runO_take _ _ m k (by omega)] at ih
    have hlen := runO_len (stF (roomN r)) (m.take k) p
    rw [List.length_take, Nat.min_eq_left (by omega)] at hlen
    have hap := st_apply r (runO (stF (roomN r)) p (m.take k)).1 (runO_le _ hpl) (m.getD k (0, 0)) (hom _ (by simp only [List.getD]; rw [List.getElem?_eq_getElem (by omega)]; exact List.getElem_mem _))
    refine Goods.to 2000 [.b true, .c (.of hap), .l, .stop] mixed (ih) (by kernel_rfl) ?_
    show Yes _
    repeat' apply And.intro
    (all_goals first | rfl | assumption | trivial | omega | (simp [-List.getD_eq_getElem?_getD, hlen, ha] <;> omega) | (simp (disch := omega) only [w64, wu64] <;> omega) | (simp (disch := omega) [-List.getD_eq_getElem?_getD, List.getD_cons_zero, List.getD_cons_succ, kCast_self, dfl_pair, dfl_int, w64, wu64, hlen, ha] <;> omega) | (rw [Bool.eq_iff_iff]; simp (disch := omega) [-List.getD_eq_getElem?_getD, List.getD_cons_zero, List.getD_cons_succ, kCast_self, dfl_pair, dfl_int, w64, wu64, hlen, ha] <;> omega) | (simp_all [-List.getD_eq_getElem?_getD] <;> omega))
theorem ObjParts_tri (r : Nat) (hr : r ≤ 255) (l m : List (Int × Int)) (hol : ∀ o ∈ l, Op64 o) (hom : ∀ o ∈ m, Op64 o) : Tri En 5 [.int .u8 r, .slice 0 0 l.length, .slice 1 0 m.length] [.tab false OpK l, .tab false OpK m] (.bl true) (gones 2) := by
  refine Tri.of Try.func5 rfl Try.call5 rfl ?_
  by_cases hl : 100 < l.length
  · refine Goods.fin 2000 [.c (.of speaks_tri), .s 19 (some true) true true] mixed Try.func5 ?_
    show Yes _
    repeat' apply And.intro
    (all_goals first | rfl | assumption | trivial | omega | (simp [-List.getD_eq_getElem?_getD] <;> omega) | (simp (disch := omega) only [w64, wu64] <;> omega) | (simp (disch := omega) [-List.getD_eq_getElem?_getD, List.getD_cons_zero, List.getD_cons_succ, kCast_self, dfl_pair, dfl_int, w64, wu64] <;> omega) | (rw [Bool.eq_iff_iff]; simp (disch := omega) [-List.getD_eq_getElem?_getD, List.getD_cons_zero, List.getD_cons_succ, kCast_self, dfl_pair, dfl_int, w64, wu64] <;> omega) | (simp_all [-List.getD_eq_getElem?_getD] <;> omega))
  · by_cases hm : 100 < m.length
    · refine Goods.fin 2000 [.c (.of speaks_tri), .s 19 (some false) true true, .b true] mixed Try.func5 ?_
      show Yes _
      repeat' apply And.intro
      (all_goals first | rfl | assumption | trivial | omega | (simp [-List.getD_eq_getElem?_getD] <;> omega) | (simp (disch := omega) only [w64, wu64] <;> omega) | (simp (disch := omega) [-List.getD_eq_getElem?_getD, List.getD_cons_zero, List.getD_cons_succ, kCast_self, dfl_pair, dfl_int, w64, wu64] <;> omega) | (rw [Bool.eq_iff_iff]; simp (disch := omega) [-List.getD_eq_getElem?_getD, List.getD_cons_zero, List.getD_cons_succ, kCast_self, dfl_pair, dfl_int, w64, wu64] <;> omega) | (simp_all [-List.getD_eq_getElem?_getD] <;> omega))
    · have h1 := replay_st true r (l ++ m) (by simp; omega) (fun o ho => (List.mem_append.1 ho).elim (hol o) (hom o))
      rw [runO_app, List.length_append] at h1
      have h2 := replay_st false r l (by omega) hol
      have ih := parts_0 l m r hr (by omega) (by omega) hom (runO (stF (roomN r)) [] l).1 (runO_le _ (Nat.zero_le _)) (runO (stF (roomN r)) [] l).2 (runO_len _ _ _) m.length 0 (by omega)
      refine Goods.to 2000 [.c (.of speaks_tri), .s 19 (some false) true true, .b false, .c (.of h1), .c (.of h2), .l, .stop] mixed (ih) (by kernel_rfl) ?_
      show Yes _
      repeat' apply And.intro
      (all_goals first | rfl | assumption | trivial | omega | (simp [-List.getD_eq_getElem?_getD, runO] <;> omega) | (simp (disch := omega) only [w64, wu64] <;> omega) | (simp (disch := omega) [-List.getD_eq_getElem?_getD, List.getD_cons_zero, List.getD_cons_succ, kCast_self, dfl_pair, dfl_int, w64, wu64, runO] <;> omega) | (rw [Bool.eq_iff_iff]; simp (disch := omega) [-List.getD_eq_getElem?_getD, List.getD_cons_zero, List.getD_cons_succ, kCast_self, dfl_pair, dfl_int, w64, wu64, runO] <;> omega) | (simp_all [-List.getD_eq_getElem?_getD] <;> omega))
theorem ObjParts_law (d : dats ([(false, (.int .u8)), (false, (.slice (.pair (.int .u64) (.pair (.int .u64) .unit)))), (false, (.slice (.pair (.int .u64) (.pair (.int .u64) .unit))))] : List (Bool × Sh))) (hd : datsOk ([(false, (.int .u8)), (false, (.slice (.pair (.int .u64) (.pair (.int .u64) .unit)))), (false, (.slice (.pair (.int .u64) (.pair (.int .u64) .unit))))] : List (Bool × Sh)) d) : Tri En 5 (argsOf ([(false, (.int .u8)), (false, (.slice (.pair (.int .u64) (.pair (.int .u64) .unit)))), (false, (.slice (.pair (.int .u64) (.pair (.int .u64) .unit))))] : List (Bool × Sh)) d 0) (objsOf ([(false, (.int .u8)), (false, (.slice (.pair (.int .u64) (.pair (.int .u64) .unit)))), (false, (.slice (.pair (.int .u64) (.pair (.int .u64) .unit))))] : List (Bool × Sh)) d) (.bl true) (gones (cnts ([(false, (.int .u8)), (false, (.slice (.pair (.int .u64) (.pair (.int .u64) .unit)))), (false, (.slice (.pair (.int .u64) (.pair (.int .u64) .unit))))] : List (Bool × Sh)))) := by
  obtain ⟨r, l, m, _⟩ := d
  obtain ⟨h0, ⟨_, h1⟩, ⟨_, h2⟩, _⟩ := hd
  obtain ⟨r, rfl, hr⟩ := wf_u8 h0
  exact ObjParts_tri r hr l m (ops64 h1) (ops64 h2)

noncomputable abbrev gUndoes (l : List (Int × Int)) : Frm := ⟨En, 6, Try.f6.ntmps, [.tab false OpK l], .bl true, gones 1⟩
theorem undoes_0 (l : List (Int × Int)) (R : Nat) (hR : R ≤ 1000) (p : List Int) (x : Int) : ∀ (j k : Nat), k + j = 1 + R → Goods (gUndoes l) ⟨.none, lp Try.f6 0,
    [(2, .int .u64 x), (9, .slice 1 0 (1 + R)), (10, .slice 2 0 (1 + R)), (11, .ptr 3 0 0), (12, .ptr 4 0 0), (57, .int .i64 (1 + R : Nat)), (58, .int .i64 k)], hp [.gone, .tab true (.int .u64) (stW R p), .tab true (.int .u64) (stW R p), .cells [.int .u64 1, .int .u64 0], .cells [.int .u64 1, .int .u64 x]]⟩
  | 0, k, hk => by
    refine Goods.fin 2000 [.b false, .s 73 (some true) true true] mixed Try.func6 ?_
    show Yes _
    repeat' apply And.intro
    (all_goals first | rfl | assumption | trivial | omega | (simp [-List.getD_eq_getElem?_getD] <;> omega) | (simp (disch := omega) only [w64, wu64] <;> omega) | (simp (disch := omega) [-List.getD_eq_getElem?_getD, List.getD_cons_zero, List.getD_cons_succ, kCast_self, dfl_pair, dfl_int, w64, wu64] <;> omega) | (rw [Bool.eq_iff_iff]; simp (disch := omega) [-List.getD_eq_getElem?_getD, List.getD_cons_zero, List.getD_cons_succ, kCast_self, dfl_pair, dfl_int, w64, wu64] <;> omega) | (simp_all [-List.getD_eq_getElem?_getD] <;> omega))
  | j + 1, k, hk => by
    have ih := undoes_0 l R hR p x j (k + 1) (by omega)
    have hl : (stW R p).length = 1 + R := tabW_len _ _
    refine Goods.to 2000 [.b true, .b false, .l, .stop] mixed (ih) (by kernel_rfl) ?_
    show Yes _
    repeat' apply And.intro
    (all_goals first | rfl | assumption | trivial | omega | (simp [-List.getD_eq_getElem?_getD] <;> omega) | (simp (disch := omega) only [w64, wu64] <;> omega) | (simp (disch := omega) [-List.getD_eq_getElem?_getD, List.getD_cons_zero, List.getD_cons_succ, kCast_self, dfl_pair, dfl_int, w64, wu64] <;> omega) | (rw [Bool.eq_iff_iff]; simp (disch := omega) [-List.getD_eq_getElem?_getD, List.getD_cons_zero, List.getD_cons_succ, kCast_self, dfl_pair, dfl_int, w64, wu64] <;> omega) | (simp_all [-List.getD_eq_getElem?_getD] <;> omega))
theorem stF_undo {R : Nat} {p : List Int} (x : Int) : stF R (p ++ [x]) (2, 0) = (p, (1, x)) := by
  unfold stF
  rw [if_neg (by simp), if_pos (by simp)]
  simp [List.getD]
theorem ObjUndoes_tri (r : Nat) (hr : r ≤ 255) (l : List (Int × Int)) (hol : ∀ o ∈ l, Op64 o) (x : Int) (hx : 0 ≤ x ∧ x ≤ 18446744073709551615) : Tri En 6 [.int .u8 r, .slice 0 0 l.length, .int .u64 x] [.tab false OpK l] (.bl true) (gones 1) := by
  refine Tri.of Try.func6 rfl Try.call6 rfl ?_
  by_cases hl : 100 < l.length
  · refine Goods.fin 2000 [.c (.of speaks_tri), .b true] mixed Try.func6 ?_
    show Yes _
    repeat' apply And.intro
    (all_goals first | rfl | assumption | trivial | omega | (simp [-List.getD_eq_getElem?_getD] <;> omega) | (simp (disch := omega) only [w64, wu64] <;> omega) | (simp (disch := omega) [-List.getD_eq_getElem?_getD, List.getD_cons_zero, List.getD_cons_succ, kCast_self, dfl_pair, dfl_int, w64, wu64] <;> omega) | (rw [Bool.eq_iff_iff]; simp (disch := omega) [-List.getD_eq_getElem?_getD, List.getD_cons_zero, List.getD_cons_succ, kCast_self, dfl_pair, dfl_int, w64, wu64] <;> omega) | (simp_all [-List.getD_eq_getElem?_getD] <;> omega))
  · have h1 := replay_st false r l (by omega) hol
    have hpl : (runO (stF (roomN r)) [] l).1.length ≤ roomN r := runO_le _ (Nat.zero_le _)
    generalize (runO (stF (roomN r)) [] l).1 = p at h1 hpl
    have hR := roomN_le r
    have hw0 := stW_at0 (roomN r) p
    have hwl : (stW (roomN r) p).length = 1 + roomN r := tabW_len _ _
    have hRr : roomN r = r := by unfold roomN; omega
    by_cases hc : p.length < roomN r
    · have e : stF (roomN r) p (1, x) = (p ++ [x], (1, 0)) := by simp [stF, hc]
      have h2 := st_apply r p hpl (1, x) ⟨⟨by simp, by simp⟩, hx⟩
      rw [e] at h2
      have h3 := st_apply r (p ++ [x]) (by simp; omega) (2, 0) (by simp [Op64])
      rw [stF_undo] at h3
      have ih := undoes_0 l (roomN r) hR p x (1 + roomN r) 0 (by omega)
      refine Goods.to 2000 [.c (.of speaks_tri), .b false, .c (.of h1), .c (.of h2), .b false, .c (.of h3), .l, .stop] mixed (ih) (by kernel_rfl) ?_
      show Yes _
      repeat' apply And.intro
      (all_goals first | rfl | assumption | trivial | omega | (simp [-List.getD_eq_getElem?_getD] <;> omega) | (simp (disch := omega) only [w64, wu64] <;> omega) | (simp (disch := omega) [-List.getD_eq_getElem?_getD, List.getD_cons_zero, List.getD_cons_succ, kCast_self, dfl_pair, dfl_int, w64, wu64] <;> omega) | (rw [Bool.eq_iff_iff]; simp (disch := omega) [-List.getD_eq_getElem?_getD, List.getD_cons_zero, List.getD_cons_succ, kCast_self, dfl_pair, dfl_int, w64, wu64] <;> omega) | (simp_all [-List.getD_eq_getElem?_getD] <;> omega))
    · have e : stF (roomN r) p (1, x) = (p, (0, 0)) := by simp [stF, hc]
      have h2 := st_apply r p hpl (1, x) ⟨⟨by simp, by simp⟩, hx⟩
      rw [e] at h2
      refine Goods.fin 2000 [.c (.of speaks_tri), .b false, .c (.of h1), .c (.of h2), .b true, .s 42 (some true) true true] mixed Try.func6 ?_
      show Yes _
      repeat' apply And.intro
      (all_goals first | rfl | assumption | trivial | omega | (simp [-List.getD_eq_getElem?_getD, hw0] <;> omega) | (simp (disch := omega) only [w64, wu64] <;> omega) | (simp (disch := omega) [-List.getD_eq_getElem?_getD, List.getD_cons_zero, List.getD_cons_succ, kCast_self, dfl_pair, dfl_int, w64, wu64, hw0] <;> omega) | (rw [Bool.eq_iff_iff]; simp (disch := omega) [-List.getD_eq_getElem?_getD, List.getD_cons_zero, List.getD_cons_succ, kCast_self, dfl_pair, dfl_int, w64, wu64, hw0] <;> omega) | (simp_all [-List.getD_eq_getElem?_getD] <;> omega))
theorem ObjUndoes_law (d : dats ([(false, (.int .u8)), (false, (.slice (.pair (.int .u64) (.pair (.int .u64) .unit)))), (false, (.int .u64))] : List (Bool × Sh))) (hd : datsOk ([(false, (.int .u8)), (false, (.slice (.pair (.int .u64) (.pair (.int .u64) .unit)))), (false, (.int .u64))] : List (Bool × Sh)) d) : Tri En 6 (argsOf ([(false, (.int .u8)), (false, (.slice (.pair (.int .u64) (.pair (.int .u64) .unit)))), (false, (.int .u64))] : List (Bool × Sh)) d 0) (objsOf ([(false, (.int .u8)), (false, (.slice (.pair (.int .u64) (.pair (.int .u64) .unit)))), (false, (.int .u64))] : List (Bool × Sh)) d) (.bl true) (gones (cnts ([(false, (.int .u8)), (false, (.slice (.pair (.int .u64) (.pair (.int .u64) .unit)))), (false, (.int .u64))] : List (Bool × Sh)))) := by
  obtain ⟨r, l, x, _⟩ := d
  obtain ⟨h0, ⟨_, h1⟩, h2, _⟩ := hd
  obtain ⟨r, rfl, hr⟩ := wf_u8 h0
  exact ObjUndoes_tri r hr l (ops64 h1) x (wf_u64 h2)
end Go.Proofs.Ytcebgfmeabbdpaa.E
