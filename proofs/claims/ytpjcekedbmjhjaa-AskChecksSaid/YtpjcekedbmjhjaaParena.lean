/- Package arena (Class, Run, Place), what the document says of it, and live's things. -/
import Derived.Test.YtpjcekedbmjhjaaPmay
namespace Go.Proofs.Ytpjcekedbmjhjaa.E
open Go
set_option maxRecDepth 100000

/-- A size has a class, this one. -/
structure ClsY (l : List Int) (n : Int) (i : Nat) : Prop where
  n1 : 1 ≤ n
  lt : i < l.length
  le : n ≤ l.getD i 0
  less : ∀ j, j < i → l.getD j 0 < n
/-- A size has none. -/
def ClsN (l : List Int) (n : Int) : Prop := n < 1 ∨ ∀ j, j < l.length → l.getD j 0 < n
theorem cls_from (l : List Int) (n : Int) (h1 : 1 ≤ n) : ∀ (j k : Nat), k + j = l.length → (∀ i, i < k → l.getD i 0 < n) → (∃ i, ClsY l n i) ∨ ClsN l n
  | 0, k, h, hk => .inr (.inr fun j hj => hk j (by omega))
  | j + 1, k, h, hk => by
    by_cases c : n ≤ l.getD k 0
    · exact .inl ⟨k, h1, by omega, c, hk⟩
    · exact cls_from l n h1 j (k + 1) (by omega) fun i hi => by
        by_cases e : i = k
        · subst e; omega
        · exact hk i (by omega)
theorem cls_cases (l : List Int) (n : Int) : (∃ i, ClsY l n i) ∨ ClsN l n := by
  by_cases h1 : 1 ≤ n
  · exact cls_from l n h1 l.length 0 (by omega) (fun i hi => absurd hi (Nat.not_lt_zero _))
  · exact .inr (.inl (by omega))
noncomputable abbrev gCls (own : Bool) (c : Cnf) (v : AV) : Frm := ⟨En, 14, Try.f14.ntmps, [.tab own (.int .i64) c.cl], v, [.tab own (.int .i64) c.cl]⟩
theorem cls_y (own : Bool) (c : Cnf) (hc : c.cl.length ≤ 16) (n : Int) (i : Nat) (h : ClsY c.cl n i) : ∀ (j k : Nat), k + j = i → Goods (gCls own c (.tuple [.int .i64 i, .bl true])) ⟨.none, lp Try.f14 0,
    [(1, .int .i64 n), (11, .slice 0 0 c.cl.length), (12, .int .i64 c.cl.length), (13, .int .i64 k)], hp [.tab own (.int .i64) c.cl]⟩
  | 0, k, hk => by
    obtain rfl : k = i := by omega
    have hl := h.lt
    have he := h.le
    obtain ⟨x, hx⟩ : ∃ x, c.cl.getD k 0 = x := ⟨_, rfl⟩
    rw [hx] at he
    refine Goods.fin 2000 [.b true, .b true] mixed Try.func14 ?_
    show Yes _
    repeat' apply And.intro
    (all_goals first | rfl | assumption | trivial | omega | (simp [-List.getD_eq_getElem?_getD, hx] <;> omega) | (simp (disch := omega) only [w64, wu64] <;> omega) | (simp (disch := omega) [-List.getD_eq_getElem?_getD, List.getD_cons_zero, List.getD_cons_succ, kCast_self, dfl_pair, dfl_int, w64, wu64, hx] <;> omega) | (rw [Bool.eq_iff_iff]; simp (disch := omega) [-List.getD_eq_getElem?_getD, List.getD_cons_zero, List.getD_cons_succ, kCast_self, dfl_pair, dfl_int, w64, wu64, hx] <;> omega) | (simp_all [-List.getD_eq_getElem?_getD] <;> omega))
  | j + 1, k, hk => by
    have ih := cls_y own c hc n i h j (k + 1) (by omega)
    have hl := h.lt
    have he := h.less k (by omega)
    obtain ⟨x, hx⟩ : ∃ x, c.cl.getD k 0 = x := ⟨_, rfl⟩
    rw [hx] at he
    refine Goods.to 2000 [.b true, .b false, .l, .stop] mixed (ih) (by kernel_rfl) ?_
    show Yes _
    repeat' apply And.intro
    (all_goals first | rfl | assumption | trivial | omega | (simp [-List.getD_eq_getElem?_getD, hx] <;> omega) | (simp (disch := omega) only [w64, wu64] <;> omega) | (simp (disch := omega) [-List.getD_eq_getElem?_getD, List.getD_cons_zero, List.getD_cons_succ, kCast_self, dfl_pair, dfl_int, w64, wu64, hx] <;> omega) | (rw [Bool.eq_iff_iff]; simp (disch := omega) [-List.getD_eq_getElem?_getD, List.getD_cons_zero, List.getD_cons_succ, kCast_self, dfl_pair, dfl_int, w64, wu64, hx] <;> omega) | (simp_all [-List.getD_eq_getElem?_getD] <;> omega))
theorem cls_n (own : Bool) (c : Cnf) (hc : c.cl.length ≤ 16) (n : Int) (h : ∀ j, j < c.cl.length → c.cl.getD j 0 < n) : ∀ (j k : Nat), k + j = c.cl.length → Goods (gCls own c (.tuple [.int .i64 0, .bl false])) ⟨.none, lp Try.f14 0,
    [(1, .int .i64 n), (11, .slice 0 0 c.cl.length), (12, .int .i64 c.cl.length), (13, .int .i64 k)], hp [.tab own (.int .i64) c.cl]⟩
  | 0, k, hk => by
    refine Goods.fin 2000 [.b false] mixed Try.func14 ?_
    show Yes _
    repeat' apply And.intro
    (all_goals first | rfl | assumption | trivial | omega | (simp [-List.getD_eq_getElem?_getD] <;> omega) | (simp (disch := omega) only [w64, wu64] <;> omega) | (simp (disch := omega) [-List.getD_eq_getElem?_getD, List.getD_cons_zero, List.getD_cons_succ, kCast_self, dfl_pair, dfl_int, w64, wu64] <;> omega) | (rw [Bool.eq_iff_iff]; simp (disch := omega) [-List.getD_eq_getElem?_getD, List.getD_cons_zero, List.getD_cons_succ, kCast_self, dfl_pair, dfl_int, w64, wu64] <;> omega) | (simp_all [-List.getD_eq_getElem?_getD] <;> omega))
  | j + 1, k, hk => by
    have ih := cls_n own c hc n h j (k + 1) (by omega)
    have he := h k (by omega)
    obtain ⟨x, hx⟩ : ∃ x, c.cl.getD k 0 = x := ⟨_, rfl⟩
    rw [hx] at he
    refine Goods.to 2000 [.b true, .b false, .l, .stop] mixed (ih) (by kernel_rfl) ?_
    show Yes _
    repeat' apply And.intro
    (all_goals first | rfl | assumption | trivial | omega | (simp [-List.getD_eq_getElem?_getD, hx] <;> omega) | (simp (disch := omega) only [w64, wu64] <;> omega) | (simp (disch := omega) [-List.getD_eq_getElem?_getD, List.getD_cons_zero, List.getD_cons_succ, kCast_self, dfl_pair, dfl_int, w64, wu64, hx] <;> omega) | (rw [Bool.eq_iff_iff]; simp (disch := omega) [-List.getD_eq_getElem?_getD, List.getD_cons_zero, List.getD_cons_succ, kCast_self, dfl_pair, dfl_int, w64, wu64, hx] <;> omega) | (simp_all [-List.getD_eq_getElem?_getD] <;> omega))
theorem class_yes (own : Bool) (c : Cnf) (hc : c.cl.length ≤ 16) (n : Int) (i : Nat) (h : ClsY c.cl n i) : Tri En 14 [cnfA 0 c, .int .i64 n] [.tab own (.int .i64) c.cl] (.tuple [.int .i64 i, .bl true]) [.tab own (.int .i64) c.cl] := by
  have ih := cls_y own c hc n i h i 0 (by omega)
  have h1 := h.n1
  refine Tri.of Try.func14 rfl Try.call14 rfl ?_
  refine Goods.to 2000 [.b false, .l, .stop] mixed (ih) (by kernel_rfl) ?_
  show Yes _
  repeat' apply And.intro
  (all_goals first | rfl | assumption | trivial | omega | (simp [-List.getD_eq_getElem?_getD] <;> omega) | (simp (disch := omega) only [w64, wu64] <;> omega) | (simp (disch := omega) [-List.getD_eq_getElem?_getD, List.getD_cons_zero, List.getD_cons_succ, kCast_self, dfl_pair, dfl_int, w64, wu64] <;> omega) | (rw [Bool.eq_iff_iff]; simp (disch := omega) [-List.getD_eq_getElem?_getD, List.getD_cons_zero, List.getD_cons_succ, kCast_self, dfl_pair, dfl_int, w64, wu64] <;> omega) | (simp_all [-List.getD_eq_getElem?_getD] <;> omega))
theorem class_no (own : Bool) (c : Cnf) (hc : c.cl.length ≤ 16) (n : Int) (h : ClsN c.cl n) : Tri En 14 [cnfA 0 c, .int .i64 n] [.tab own (.int .i64) c.cl] (.tuple [.int .i64 0, .bl false]) [.tab own (.int .i64) c.cl] := by
  refine Tri.of Try.func14 rfl Try.call14 rfl ?_
  by_cases h1 : n < 1
  · refine Goods.fin 2000 [.b true] mixed Try.func14 ?_
    show Yes _
    repeat' apply And.intro
    (all_goals first | rfl | assumption | trivial | omega | (simp [-List.getD_eq_getElem?_getD] <;> omega) | (simp (disch := omega) only [w64, wu64] <;> omega) | (simp (disch := omega) [-List.getD_eq_getElem?_getD, List.getD_cons_zero, List.getD_cons_succ, kCast_self, dfl_pair, dfl_int, w64, wu64] <;> omega) | (rw [Bool.eq_iff_iff]; simp (disch := omega) [-List.getD_eq_getElem?_getD, List.getD_cons_zero, List.getD_cons_succ, kCast_self, dfl_pair, dfl_int, w64, wu64] <;> omega) | (simp_all [-List.getD_eq_getElem?_getD] <;> omega))
  · have ih := cls_n own c hc n (h.resolve_left h1) c.cl.length 0 (by omega)
    refine Goods.to 2000 [.b false, .l, .stop] mixed (ih) (by kernel_rfl) ?_
    show Yes _
    repeat' apply And.intro
    (all_goals first | rfl | assumption | trivial | omega | (simp [-List.getD_eq_getElem?_getD] <;> omega) | (simp (disch := omega) only [w64, wu64] <;> omega) | (simp (disch := omega) [-List.getD_eq_getElem?_getD, List.getD_cons_zero, List.getD_cons_succ, kCast_self, dfl_pair, dfl_int, w64, wu64] <;> omega) | (rw [Bool.eq_iff_iff]; simp (disch := omega) [-List.getD_eq_getElem?_getD, List.getD_cons_zero, List.getD_cons_succ, kCast_self, dfl_pair, dfl_int, w64, wu64] <;> omega) | (simp_all [-List.getD_eq_getElem?_getD] <;> omega))
noncomputable abbrev gRcl (own : Bool) (c : Cnf) (v : Int) : Frm := ⟨En, 9, Try.f9.ntmps, [.tab own (.int .i64) c.cl], .int .i64 v, [.tab own (.int .i64) c.cl]⟩
def cnfC (c : Cnf) : AObj := .cells [.int .i64 c.w, .int .i64 c.s, .int .i64 c.b, .int .i64 c.t, .slice 0 0 c.cl.length]
theorem rcl_le (own : Bool) (c : Cnf) (hc : c.cl.length ≤ 16) (n : Int) (i : Nat) (h : ClsY c.cl n i) : ∀ j : Nat, j ≤ i → Goods (gRcl own c i) ⟨.none, lp Try.f9 0,
    [(1, .int .i64 n), (2, .ptr 1 0 0), (5, .int .i64 i), (6, .int .i64 ((j : Int) - 1))], hp [.tab own (.int .i64) c.cl, cnfC c]⟩
  | 0, hj => by
    refine Goods.fin 2000 [.b false] mixed Try.func9 ?_
    show Yes _
    repeat' apply And.intro
    (all_goals first | rfl | assumption | trivial | omega | (simp [-List.getD_eq_getElem?_getD] <;> omega) | (simp (disch := omega) only [w64, wu64] <;> omega) | (simp (disch := omega) [-List.getD_eq_getElem?_getD, List.getD_cons_zero, List.getD_cons_succ, kCast_self, dfl_pair, dfl_int, w64, wu64] <;> omega) | (rw [Bool.eq_iff_iff]; simp (disch := omega) [-List.getD_eq_getElem?_getD, List.getD_cons_zero, List.getD_cons_succ, kCast_self, dfl_pair, dfl_int, w64, wu64] <;> omega) | (simp_all [-List.getD_eq_getElem?_getD] <;> omega))
  | j + 1, hj => by
    have ih := rcl_le own c hc n i h j (by omega)
    have hl := h.lt
    have h1 := h.n1
    have he := h.less j (by omega)
    obtain ⟨x, hx⟩ : ∃ x, c.cl.getD j 0 = x := ⟨_, rfl⟩
    rw [hx] at he
    have e : (((j + 1 : Nat) : Int) - 1).toNat = j := by omega
    refine Goods.to 2000 [.b true, .s 16 (some true) true true, .b false, .l, .stop] mixed (ih) (by kernel_rfl) ?_
    show Yes _
    repeat' apply And.intro
    (all_goals first | rfl | assumption | trivial | omega | (simp [-List.getD_eq_getElem?_getD, hx, e] <;> omega) | (simp (disch := omega) only [w64, wu64] <;> omega) | (simp (disch := omega) [-List.getD_eq_getElem?_getD, List.getD_cons_zero, List.getD_cons_succ, kCast_self, dfl_pair, dfl_int, w64, wu64, hx, e] <;> omega) | (rw [Bool.eq_iff_iff]; simp (disch := omega) [-List.getD_eq_getElem?_getD, List.getD_cons_zero, List.getD_cons_succ, kCast_self, dfl_pair, dfl_int, w64, wu64, hx, e] <;> omega) | (simp_all [-List.getD_eq_getElem?_getD] <;> omega))
theorem rcl_gt (own : Bool) (c : Cnf) (hc : c.cl.length ≤ 16) (n : Int) (i : Nat) (h : ClsY c.cl n i) : ∀ (j : Nat) (b : Int), i < j → j ≤ c.cl.length → Goods (gRcl own c i) ⟨.none, lp Try.f9 0,
    [(1, .int .i64 n), (2, .ptr 1 0 0), (5, .int .i64 b), (6, .int .i64 ((j : Int) - 1))], hp [.tab own (.int .i64) c.cl, cnfC c]⟩
  | 0, b, hj, hl => absurd hj (Nat.not_lt_zero _)
  | j + 1, b, hj, hl => by
    have h1 := h.n1
    have e : (((j + 1 : Nat) : Int) - 1).toNat = j := by omega
    by_cases hij : i = j
    · subst hij
      have ih := rcl_le own c hc n i h i (Nat.le_refl _)
      have he := h.le
      obtain ⟨x, hx⟩ : ∃ x, c.cl.getD i 0 = x := ⟨_, rfl⟩
      rw [hx] at he
      refine Goods.to 2000 [.b true, .s 16 (some true) true true, .b true, .l, .stop] mixed (ih) (by kernel_rfl) ?_
      show Yes _
      repeat' apply And.intro
      (all_goals first | rfl | assumption | trivial | omega | (simp [-List.getD_eq_getElem?_getD, hx, e] <;> omega) | (simp (disch := omega) only [w64, wu64] <;> omega) | (simp (disch := omega) [-List.getD_eq_getElem?_getD, List.getD_cons_zero, List.getD_cons_succ, kCast_self, dfl_pair, dfl_int, w64, wu64, hx, e] <;> omega) | (rw [Bool.eq_iff_iff]; simp (disch := omega) [-List.getD_eq_getElem?_getD, List.getD_cons_zero, List.getD_cons_succ, kCast_self, dfl_pair, dfl_int, w64, wu64, hx, e] <;> omega) | (simp_all [-List.getD_eq_getElem?_getD] <;> omega))
    · obtain ⟨x, hx⟩ : ∃ x, c.cl.getD j 0 = x := ⟨_, rfl⟩
      by_cases hn : n ≤ x
      · have ih := rcl_gt own c hc n i h j j (by omega) (by omega)
        refine Goods.to 2000 [.b true, .s 16 (some true) true true, .b true, .l, .stop] mixed (ih) (by kernel_rfl) ?_
        show Yes _
        repeat' apply And.intro
        (all_goals first | rfl | assumption | trivial | omega | (simp [-List.getD_eq_getElem?_getD, hx, e] <;> omega) | (simp (disch := omega) only [w64, wu64] <;> omega) | (simp (disch := omega) [-List.getD_eq_getElem?_getD, List.getD_cons_zero, List.getD_cons_succ, kCast_self, dfl_pair, dfl_int, w64, wu64, hx, e] <;> omega) | (rw [Bool.eq_iff_iff]; simp (disch := omega) [-List.getD_eq_getElem?_getD, List.getD_cons_zero, List.getD_cons_succ, kCast_self, dfl_pair, dfl_int, w64, wu64, hx, e] <;> omega) | (simp_all [-List.getD_eq_getElem?_getD] <;> omega))
      · have ih := rcl_gt own c hc n i h j b (by omega) (by omega)
        refine Goods.to 2000 [.b true, .s 16 (some true) true true, .b false, .l, .stop] mixed (ih) (by kernel_rfl) ?_
        show Yes _
        repeat' apply And.intro
        (all_goals first | rfl | assumption | trivial | omega | (simp [-List.getD_eq_getElem?_getD, hx, e] <;> omega) | (simp (disch := omega) only [w64, wu64] <;> omega) | (simp (disch := omega) [-List.getD_eq_getElem?_getD, List.getD_cons_zero, List.getD_cons_succ, kCast_self, dfl_pair, dfl_int, w64, wu64, hx, e] <;> omega) | (rw [Bool.eq_iff_iff]; simp (disch := omega) [-List.getD_eq_getElem?_getD, List.getD_cons_zero, List.getD_cons_succ, kCast_self, dfl_pair, dfl_int, w64, wu64, hx, e] <;> omega) | (simp_all [-List.getD_eq_getElem?_getD] <;> omega))
theorem rcl_n (own : Bool) (c : Cnf) (hc : c.cl.length ≤ 16) (n : Int) (h : ClsN c.cl n) : ∀ j : Nat, j ≤ c.cl.length → Goods (gRcl own c (-1)) ⟨.none, lp Try.f9 0,
    [(1, .int .i64 n), (2, .ptr 1 0 0), (5, .int .i64 (-1)), (6, .int .i64 ((j : Int) - 1))], hp [.tab own (.int .i64) c.cl, cnfC c]⟩
  | 0, hj => by
    refine Goods.fin 2000 [.b false] mixed Try.func9 ?_
    show Yes _
    repeat' apply And.intro
    (all_goals first | rfl | assumption | trivial | omega | (simp [-List.getD_eq_getElem?_getD] <;> omega) | (simp (disch := omega) only [w64, wu64] <;> omega) | (simp (disch := omega) [-List.getD_eq_getElem?_getD, List.getD_cons_zero, List.getD_cons_succ, kCast_self, dfl_pair, dfl_int, w64, wu64] <;> omega) | (rw [Bool.eq_iff_iff]; simp (disch := omega) [-List.getD_eq_getElem?_getD, List.getD_cons_zero, List.getD_cons_succ, kCast_self, dfl_pair, dfl_int, w64, wu64] <;> omega) | (simp_all [-List.getD_eq_getElem?_getD] <;> omega))
  | j + 1, hj => by
    have ih := rcl_n own c hc n h j (by omega)
    have e : (((j + 1 : Nat) : Int) - 1).toNat = j := by omega
    by_cases h1 : n < 1
    · refine Goods.to 2000 [.b true, .s 16 (some false) true true, .l, .stop] mixed (ih) (by kernel_rfl) ?_
      show Yes _
      repeat' apply And.intro
      (all_goals first | rfl | assumption | trivial | omega | (simp [-List.getD_eq_getElem?_getD, e] <;> omega) | (simp (disch := omega) only [w64, wu64] <;> omega) | (simp (disch := omega) [-List.getD_eq_getElem?_getD, List.getD_cons_zero, List.getD_cons_succ, kCast_self, dfl_pair, dfl_int, w64, wu64, e] <;> omega) | (rw [Bool.eq_iff_iff]; simp (disch := omega) [-List.getD_eq_getElem?_getD, List.getD_cons_zero, List.getD_cons_succ, kCast_self, dfl_pair, dfl_int, w64, wu64, e] <;> omega) | (simp_all [-List.getD_eq_getElem?_getD] <;> omega))
    · have he := h.resolve_left h1 j (by omega)
      obtain ⟨x, hx⟩ : ∃ x, c.cl.getD j 0 = x := ⟨_, rfl⟩
      rw [hx] at he
      refine Goods.to 2000 [.b true, .s 16 (some true) true true, .b false, .l, .stop] mixed (ih) (by kernel_rfl) ?_
      show Yes _
      repeat' apply And.intro
      (all_goals first | rfl | assumption | trivial | omega | (simp [-List.getD_eq_getElem?_getD, hx, e] <;> omega) | (simp (disch := omega) only [w64, wu64] <;> omega) | (simp (disch := omega) [-List.getD_eq_getElem?_getD, List.getD_cons_zero, List.getD_cons_succ, kCast_self, dfl_pair, dfl_int, w64, wu64, hx, e] <;> omega) | (rw [Bool.eq_iff_iff]; simp (disch := omega) [-List.getD_eq_getElem?_getD, List.getD_cons_zero, List.getD_cons_succ, kCast_self, dfl_pair, dfl_int, w64, wu64, hx, e] <;> omega) | (simp_all [-List.getD_eq_getElem?_getD] <;> omega))
theorem rclass_yes (own : Bool) (c : Cnf) (hc : c.cl.length ≤ 16) (n : Int) (i : Nat) (h : ClsY c.cl n i) : Tri En 9 [cnfA 0 c, .int .i64 n] [.tab own (.int .i64) c.cl] (.int .i64 i) [.tab own (.int .i64) c.cl] := by
  have ih := rcl_gt own c hc n i h c.cl.length (-1) h.lt (Nat.le_refl _)
  refine Tri.of Try.func9 rfl Try.call9 rfl ?_
  refine Goods.to 2000 [.l, .stop] mixed (ih) (by kernel_rfl) ?_
  show Yes _
  repeat' apply And.intro
  (all_goals first | rfl | assumption | trivial | omega | (simp [-List.getD_eq_getElem?_getD] <;> omega) | (simp (disch := omega) only [w64, wu64] <;> omega) | (simp (disch := omega) [-List.getD_eq_getElem?_getD, List.getD_cons_zero, List.getD_cons_succ, kCast_self, dfl_pair, dfl_int, w64, wu64] <;> omega) | (rw [Bool.eq_iff_iff]; simp (disch := omega) [-List.getD_eq_getElem?_getD, List.getD_cons_zero, List.getD_cons_succ, kCast_self, dfl_pair, dfl_int, w64, wu64] <;> omega) | (simp_all [-List.getD_eq_getElem?_getD] <;> omega))
theorem rclass_no (own : Bool) (c : Cnf) (hc : c.cl.length ≤ 16) (n : Int) (h : ClsN c.cl n) : Tri En 9 [cnfA 0 c, .int .i64 n] [.tab own (.int .i64) c.cl] (.int .i64 (-1)) [.tab own (.int .i64) c.cl] := by
  have ih := rcl_n own c hc n h c.cl.length (Nat.le_refl _)
  refine Tri.of Try.func9 rfl Try.call9 rfl ?_
  refine Goods.to 2000 [.l, .stop] mixed (ih) (by kernel_rfl) ?_
  show Yes _
  repeat' apply And.intro
  (all_goals first | rfl | assumption | trivial | omega | (simp [-List.getD_eq_getElem?_getD] <;> omega) | (simp (disch := omega) only [w64, wu64] <;> omega) | (simp (disch := omega) [-List.getD_eq_getElem?_getD, List.getD_cons_zero, List.getD_cons_succ, kCast_self, dfl_pair, dfl_int, w64, wu64] <;> omega) | (rw [Bool.eq_iff_iff]; simp (disch := omega) [-List.getD_eq_getElem?_getD, List.getD_cons_zero, List.getD_cons_succ, kCast_self, dfl_pair, dfl_int, w64, wu64] <;> omega) | (simp_all [-List.getD_eq_getElem?_getD] <;> omega))
end Go.Proofs.Ytpjcekedbmjhjaa.E
