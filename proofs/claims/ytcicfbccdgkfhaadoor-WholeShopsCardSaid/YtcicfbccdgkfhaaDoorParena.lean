/- Package arena (Class, Run, Place), what the document says of it, and live's things. -/
import Derived.Test.YtcicfbccdgkfhaaDoorPmay
namespace Go.Proofs.YtcicfbccdgkfhaaDoor.E
set_option linter.unusedSimpArgs false
set_option linter.unusedVariables false
open Go
set_option maxRecDepth 100000

/-- A size has a class, this one. -/
structure ClsY (l : List Int) (n : Int) (i : Nat) : Prop where
  n1 : 1 ≤ n
  lt : i < l.length
  le : n ≤ l.getD i 0
  less : ∀ j, j < i → l.getD j 0 < n
/-- A size has none. -/
def ClsN (l : List Int) (n : Int) : Prop := n < 1 ∨ ∀ j, j < l.length → l.getD j 0 < n
theorem cls_from (l : List Int) (n : Int) (h1 : 1 ≤ n) : ∀ (j k : Nat), k + j = l.length → (∀ i, i < k → l.getD i 0 < n) → (∃ i, ClsY l n i) ∨ ClsN l n
  | 0, k, h, hk => .inr (.inr fun j hj => hk j (by omega))
  | j + 1, k, h, hk => by
    by_cases c : n ≤ l.getD k 0
    · exact .inl ⟨k, h1, by omega, c, hk⟩
    · exact cls_from l n h1 j (k + 1) (by omega) fun i hi => by
        by_cases e : i = k
        · subst e; omega
        · exact hk i (by omega)
theorem cls_cases (l : List Int) (n : Int) : (∃ i, ClsY l n i) ∨ ClsN l n := by
  by_cases h1 : 1 ≤ n
  · exact cls_from l n h1 l.length 0 (by omega) (fun i hi => absurd hi (Nat.not_lt_zero _))
  · exact .inr (.inl (by omega))
noncomputable abbrev gCls (own : Bool) (c : Cnf) (v : AV) : Frm := ⟨En, 61, Tryd.f61.ntmps, [.tab own (.int .i64) c.cl], v, [.tab own (.int .i64) c.cl]⟩
theorem cls_y (own : Bool) (c : Cnf) (hc : c.cl.length ≤ 16) (n : Int) (i : Nat) (h : ClsY c.cl n i) : ∀ (j k : Nat), k + j = i → Goods (gCls own c (.tuple [.int .i64 i, .bl true])) ⟨.none, lp Tryd.f61 0,
    [(1, .int .i64 n), (11, .slice 0 0 c.cl.length), (12, .int .i64 c.cl.length), (13, .int .i64 k)], hp [.tab own (.int .i64) c.cl]⟩
  | 0, k, hk => by
    obtain rfl : k = i := by omega
    have hl := h.lt
    have he := h.le
    obtain ⟨x, hx⟩ : ∃ x, c.cl.getD k 0 = x := ⟨_, rfl⟩
    rw [hx] at he
    refine Goods.fin 2000 [.b true, .b true] mixed Tryd.func61 ?_
    show Yes _
    repeat' apply And.intro
    (all_goals first | rfl | assumption | trivial | omega | (simp [-List.getD_eq_getElem?_getD, hx] <;> omega) | (simp (disch := omega) only [w64, wu64] <;> omega) | (simp (disch := omega) [-List.getD_eq_getElem?_getD, List.getD_cons_zero, List.getD_cons_succ, kCast_self, dfl_pair, dfl_int, w64, wu64, hx] <;> omega) | (rw [Bool.eq_iff_iff]; simp (disch := omega) [-List.getD_eq_getElem?_getD, List.getD_cons_zero, List.getD_cons_succ, kCast_self, dfl_pair, dfl_int, w64, wu64, hx] <;> omega) | (simp_all [-List.getD_eq_getElem?_getD] <;> omega))
  | j + 1, k, hk => by
    have ih := cls_y own c hc n i h j (k + 1) (by omega)
    have hl := h.lt
    have he := h.less k (by omega)
    obtain ⟨x, hx⟩ : ∃ x, c.cl.getD k 0 = x := ⟨_, rfl⟩
    rw [hx] at he
    refine Goods.to 2000 [.b true, .b false, .l, .stop] mixed (ih) (by kernel_rfl) ?_
    show Yes _
    repeat' apply And.intro
    (all_goals first | rfl | assumption | trivial | omega | (simp [-List.getD_eq_getElem?_getD, hx] <;> omega) | (simp (disch := omega) only [w64, wu64] <;> omega) | (simp (disch := omega) [-List.getD_eq_getElem?_getD, List.getD_cons_zero, List.getD_cons_succ, kCast_self, dfl_pair, dfl_int, w64, wu64, hx] <;> omega) | (rw [Bool.eq_iff_iff]; simp (disch := omega) [-List.getD_eq_getElem?_getD, List.getD_cons_zero, List.getD_cons_succ, kCast_self, dfl_pair, dfl_int, w64, wu64, hx] <;> omega) | (simp_all [-List.getD_eq_getElem?_getD] <;> omega))
theorem cls_n (own : Bool) (c : Cnf) (hc : c.cl.length ≤ 16) (n : Int) (h : ∀ j, j < c.cl.length → c.cl.getD j 0 < n) : ∀ (j k : Nat), k + j = c.cl.length → Goods (gCls own c (.tuple [.int .i64 0, .bl false])) ⟨.none, lp Tryd.f61 0,
    [(1, .int .i64 n), (11, .slice 0 0 c.cl.length), (12, .int .i64 c.cl.length), (13, .int .i64 k)], hp [.tab own (.int .i64) c.cl]⟩
  | 0, k, hk => by
    refine Goods.fin 2000 [.b false] mixed Tryd.func61 ?_
    show Yes _
    repeat' apply And.intro
    (all_goals first | rfl | assumption | trivial | omega | (simp [-List.getD_eq_getElem?_getD] <;> omega) | (simp (disch := omega) only [w64, wu64] <;> omega) | (simp (disch := omega) [-List.getD_eq_getElem?_getD, List.getD_cons_zero, List.getD_cons_succ, kCast_self, dfl_pair, dfl_int, w64, wu64] <;> omega) | (rw [Bool.eq_iff_iff]; simp (disch := omega) [-List.getD_eq_getElem?_getD, List.getD_cons_zero, List.getD_cons_succ, kCast_self, dfl_pair, dfl_int, w64, wu64] <;> omega) | (simp_all [-List.getD_eq_getElem?_getD] <;> omega))
  | j + 1, k, hk => by
    have ih := cls_n own c hc n h j (k + 1) (by omega)
    have he := h k (by omega)
    obtain ⟨x, hx⟩ : ∃ x, c.cl.getD k 0 = x := ⟨_, rfl⟩
    rw [hx] at he
    refine Goods.to 2000 [.b true, .b false, .l, .stop] mixed (ih) (by kernel_rfl) ?_
    show Yes _
    repeat' apply And.intro
    (all_goals first | rfl | assumption | trivial | omega | (simp [-List.getD_eq_getElem?_getD, hx] <;> omega) | (simp (disch := omega) only [w64, wu64] <;> omega) | (simp (disch := omega) [-List.getD_eq_getElem?_getD, List.getD_cons_zero, List.getD_cons_succ, kCast_self, dfl_pair, dfl_int, w64, wu64, hx] <;> omega) | (rw [Bool.eq_iff_iff]; simp (disch := omega) [-List.getD_eq_getElem?_getD, List.getD_cons_zero, List.getD_cons_succ, kCast_self, dfl_pair, dfl_int, w64, wu64, hx] <;> omega) | (simp_all [-List.getD_eq_getElem?_getD] <;> omega))
theorem class_yes (own : Bool) (c : Cnf) (hc : c.cl.length ≤ 16) (n : Int) (i : Nat) (h : ClsY c.cl n i) : Tri En 61 [cnfA 0 c, .int .i64 n] [.tab own (.int .i64) c.cl] (.tuple [.int .i64 i, .bl true]) [.tab own (.int .i64) c.cl] := by
  have ih := cls_y own c hc n i h i 0 (by omega)
  have h1 := h.n1
  refine Tri.of Tryd.func61 rfl Tryd.call61 rfl ?_
  refine Goods.to 2000 [.b false, .l, .stop] mixed (ih) (by kernel_rfl) ?_
  show Yes _
  repeat' apply And.intro
  (all_goals first | rfl | assumption | trivial | omega | (simp [-List.getD_eq_getElem?_getD] <;> omega) | (simp (disch := omega) only [w64, wu64] <;> omega) | (simp (disch := omega) [-List.getD_eq_getElem?_getD, List.getD_cons_zero, List.getD_cons_succ, kCast_self, dfl_pair, dfl_int, w64, wu64] <;> omega) | (rw [Bool.eq_iff_iff]; simp (disch := omega) [-List.getD_eq_getElem?_getD, List.getD_cons_zero, List.getD_cons_succ, kCast_self, dfl_pair, dfl_int, w64, wu64] <;> omega) | (simp_all [-List.getD_eq_getElem?_getD] <;> omega))
theorem class_no (own : Bool) (c : Cnf) (hc : c.cl.length ≤ 16) (n : Int) (h : ClsN c.cl n) : Tri En 61 [cnfA 0 c, .int .i64 n] [.tab own (.int .i64) c.cl] (.tuple [.int .i64 0, .bl false]) [.tab own (.int .i64) c.cl] := by
  refine Tri.of Tryd.func61 rfl Tryd.call61 rfl ?_
  by_cases h1 : n < 1
  · refine Goods.fin 2000 [.b true] mixed Tryd.func61 ?_
    show Yes _
    repeat' apply And.intro
    (all_goals first | rfl | assumption | trivial | omega | (simp [-List.getD_eq_getElem?_getD] <;> omega) | (simp (disch := omega) only [w64, wu64] <;> omega) | (simp (disch := omega) [-List.getD_eq_getElem?_getD, List.getD_cons_zero, List.getD_cons_succ, kCast_self, dfl_pair, dfl_int, w64, wu64] <;> omega) | (rw [Bool.eq_iff_iff]; simp (disch := omega) [-List.getD_eq_getElem?_getD, List.getD_cons_zero, List.getD_cons_succ, kCast_self, dfl_pair, dfl_int, w64, wu64] <;> omega) | (simp_all [-List.getD_eq_getElem?_getD] <;> omega))
  · have ih := cls_n own c hc n (h.resolve_left h1) c.cl.length 0 (by omega)
    refine Goods.to 2000 [.b false, .l, .stop] mixed (ih) (by kernel_rfl) ?_
    show Yes _
    repeat' apply And.intro
    (all_goals first | rfl | assumption | trivial | omega | (simp [-List.getD_eq_getElem?_getD] <;> omega) | (simp (disch := omega) only [w64, wu64] <;> omega) | (simp (disch := omega) [-List.getD_eq_getElem?_getD, List.getD_cons_zero, List.getD_cons_succ, kCast_self, dfl_pair, dfl_int, w64, wu64] <;> omega) | (rw [Bool.eq_iff_iff]; simp (disch := omega) [-List.getD_eq_getElem?_getD, List.getD_cons_zero, List.getD_cons_succ, kCast_self, dfl_pair, dfl_int, w64, wu64] <;> omega) | (simp_all [-List.getD_eq_getElem?_getD] <;> omega))
end Go.Proofs.YtcicfbccdgkfhaaDoor.E
