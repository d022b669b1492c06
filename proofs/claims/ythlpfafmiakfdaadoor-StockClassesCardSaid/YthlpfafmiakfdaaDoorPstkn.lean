/- Package stock: a new stock, of which one class is looked at. -/
import Derived.Test.YthlpfafmiakfdaaDoorPstkb
namespace Go.Proofs.YthlpfafmiakfdaaDoor.E
set_option linter.unusedSimpArgs false
set_option linter.unusedVariables false
open Go
set_option maxRecDepth 100000
abbrev rawT : RawP := fun _ _ => True
noncomputable abbrev gNew (own : Bool) (c : Cnf) (k : Nat) : Frm := ⟨En, 10, Tryd.f10.ntmps, [.tab own (.int .i64) c.cl], .ptr 1 0 0, [.tab own (.int .i64) c.cl, stkC 2 c, clsO c, .mix k rawT (.slice 5 0 0), .mix k rawT (.map 6), .tab true BlkK [], .map BlkK .unit 0 []]⟩
def cnfC (c : Cnf) : AObj := .cells [.int .i64 c.w, .int .i64 c.s, .int .i64 c.b, .int .i64 c.t, .slice 0 0 c.cl.length]
def stkN (c : Cnf) (i : Nat) : AObj := .cells [.int .i64 c.w, .int .i64 c.s, .int .i64 c.b, .int .i64 c.t, .slice 3 0 c.cl.length, .slice 4 0 c.cl.length, .slice 5 0 i]
abbrev newTm (c : Cnf) (i : Nat) : Tm := [(1, .ptr 1 0 0), (3, .ptr 2 0 0), (14, .int .i64 c.cl.length), (15, .int .i64 i)]
theorem new_b (own : Bool) (c : Cnf) (hc : c.cl.length ≤ 16) (k : Nat) (hk : k < c.cl.length) : ∀ (j i : Nat), i + j = c.cl.length → k < i →
    Goods (gNew own c k) ⟨.none, lp Tryd.f10 0, newTm c i, hp [.tab own (.int .i64) c.cl, cnfC c, stkN c i, clsO c, .tab true .raw (List.replicate c.cl.length (.slice none 0 0)), .mix k (fun _ b => k + 1 + b.length = i) (.map 6), .map BlkK .unit 0 []]⟩
  | 0, i, hi, hki => by
    obtain rfl : i = c.cl.length := by omega
    refine Goods.nilMix BlkK (pre := [.tab own (.int .i64) c.cl, cnfC c, stkN c c.cl.length, clsO c]) (post := [.mix k (fun _ b => k + 1 + b.length = c.cl.length) (.map 6), .map BlkK .unit 0 []]) hk ?_
    refine Goods.fin 2000 [.b false] mixed Tryd.func10 ?_
    show Yes _
    repeat' apply And.intro
    (all_goals first | rfl | assumption | trivial | omega | (simp [-List.getD_eq_getElem?_getD] <;> omega) | (simp (disch := omega) only [w64, wu64] <;> omega) | (simp (disch := omega) [-List.getD_eq_getElem?_getD, List.getD_cons_zero, List.getD_cons_succ, kCast_self, dfl_pair, dfl_int, w64, wu64] <;> omega) | (rw [Bool.eq_iff_iff]; simp (disch := omega) [-List.getD_eq_getElem?_getD, List.getD_cons_zero, List.getD_cons_succ, kCast_self, dfl_pair, dfl_int, w64, wu64] <;> omega) | (simp_all [-List.getD_eq_getElem?_getD] <;> omega))
  | j + 1, i, hi, hki => by
    have ih := new_b own c hc k hk j (i + 1) (by omega) (by omega)
    have g0 : ∀ a b : List Value, (∃ b' z, k + 1 + b'.length = i ∧ b = b' ++ [z]) → k + 1 + b.length = i + 1 := by
      rintro a b ⟨b', z, h1, rfl⟩; simp; omega
    have g1 : ∀ a b : List Value, k + 1 + b.length = i → a.length = k → i = k + 1 + b.length := fun a b h _ => h.symm
    refine Goods.to 2000 [.b true, .l, .stop] mixed (ih) (by kernel_rfl) ?_
    show Yes _
    repeat' apply And.intro
    all_goals try first | exact g0 | exact g1
    (all_goals first | rfl | assumption | trivial | omega | (simp [-List.getD_eq_getElem?_getD] <;> omega) | (simp (disch := omega) only [w64, wu64] <;> omega) | (simp (disch := omega) [-List.getD_eq_getElem?_getD, List.getD_cons_zero, List.getD_cons_succ, kCast_self, dfl_pair, dfl_int, w64, wu64] <;> omega) | (rw [Bool.eq_iff_iff]; simp (disch := omega) [-List.getD_eq_getElem?_getD, List.getD_cons_zero, List.getD_cons_succ, kCast_self, dfl_pair, dfl_int, w64, wu64] <;> omega) | (simp_all [-List.getD_eq_getElem?_getD] <;> omega))
theorem new_a (own : Bool) (c : Cnf) (hc : c.cl.length ≤ 16) (k : Nat) (hk : k < c.cl.length) : ∀ (j i : Nat) (us : List Value), i + j = k → us.length = i →
    Goods (gNew own c k) ⟨.none, lp Tryd.f10 0, newTm c i, hp [.tab own (.int .i64) c.cl, cnfC c, stkN c i, clsO c, .tab true .raw (List.replicate c.cl.length (.slice none 0 0)), .tab true .raw us]⟩
  | 0, i, us, hi, hu => by
    obtain rfl : i = k := by omega
    obtain ⟨j, hj⟩ : ∃ j, i + 1 + j = c.cl.length := ⟨c.cl.length - i - 1, by omega⟩
    have ih := new_b own c hc i hk j (i + 1) hj (by omega)
    have g0 : ∀ a b : List Value, a = us ∧ b = [] → i + 1 + b.length = i + 1 := by
      rintro a b ⟨_, rfl⟩; rfl
    refine Goods.to 2000 [.b true, .l, .stop] mixed (ih) (by kernel_rfl) ?_
    show Yes _
    repeat' apply And.intro
    all_goals try exact g0
    (all_goals first | rfl | assumption | trivial | omega | (simp [-List.getD_eq_getElem?_getD] <;> omega) | (simp (disch := omega) only [w64, wu64] <;> omega) | (simp (disch := omega) [-List.getD_eq_getElem?_getD, List.getD_cons_zero, List.getD_cons_succ, kCast_self, dfl_pair, dfl_int, w64, wu64] <;> omega) | (rw [Bool.eq_iff_iff]; simp (disch := omega) [-List.getD_eq_getElem?_getD, List.getD_cons_zero, List.getD_cons_succ, kCast_self, dfl_pair, dfl_int, w64, wu64] <;> omega) | (simp_all [-List.getD_eq_getElem?_getD] <;> omega))
  | j + 1, i, us, hi, hu => by
    have ih : Goods (gNew own c k) ⟨.none, lp Tryd.f10 0, newTm c (i + 1), hp [.tab own (.int .i64) c.cl, cnfC c, stkN c (i + 1), clsO c, .tab true .raw (List.replicate c.cl.length (.slice none 0 0)), .mix us.length (fun a b => a = us ∧ b = []) .any]⟩ :=
      Goods.forget (a := [.tab own (.int .i64) c.cl, cnfC c, stkN c (i + 1), clsO c, .tab true .raw (List.replicate c.cl.length (.slice none 0 0))]) (b := []) fun u => new_a own c hc k hk j (i + 1) (us ++ [u]) (by omega) (by simp [hu])
    refine Goods.to 2000 [.b true, .l, .stop] mixed (ih) (by kernel_rfl) ?_
    show Yes _
    repeat' apply And.intro
    (all_goals first | rfl | assumption | trivial | omega | (simp [-List.getD_eq_getElem?_getD] <;> omega) | (simp (disch := omega) only [w64, wu64] <;> omega) | (simp (disch := omega) [-List.getD_eq_getElem?_getD, List.getD_cons_zero, List.getD_cons_succ, kCast_self, dfl_pair, dfl_int, w64, wu64] <;> omega) | (rw [Bool.eq_iff_iff]; simp (disch := omega) [-List.getD_eq_getElem?_getD, List.getD_cons_zero, List.getD_cons_succ, kCast_self, dfl_pair, dfl_int, w64, wu64] <;> omega) | (simp_all [-List.getD_eq_getElem?_getD] <;> omega))
theorem new_tri (own : Bool) (c : Cnf) (h : c.Ok) (k : Nat) (hk : k < c.cl.length) : Tri En 10 [cnfA 0 c] [.tab own (.int .i64) c.cl] (.ptr 1 0 0) [.tab own (.int .i64) c.cl, stkC 2 c, clsO c, .mix k rawT (.slice 5 0 0), .mix k rawT (.map 6), .tab true BlkK [], .map BlkK .unit 0 []] := by
  have l1 := h.l1
  have h1 := conf_copy own c (by omega)
  have ih : Goods (gNew own c k) ⟨.none, lp Tryd.f10 0, newTm c 0, hp [.tab own (.int .i64) c.cl, cnfC c, .cells ([.int .i64 c.w, .int .i64 c.s, .int .i64 c.b, .int .i64 c.t, .slice 3 0 c.cl.length, .slice 4 0 c.cl.length] ++ .nilslice :: []), clsO c, .tab true .raw (List.replicate c.cl.length (.slice none 0 0))]⟩ :=
    Goods.nilCell .raw (pre := [.tab own (.int .i64) c.cl, cnfC c]) (post := [clsO c, .tab true .raw (List.replicate c.cl.length (.slice none 0 0))]) (new_a own c l1 k hk k 0 [] (by omega) rfl)
  refine Tri.of Tryd.func10 rfl Tryd.call10 rfl ?_
  refine Goods.to 2000 [.c (.of h1), .l, .stop] mixed (ih) (by kernel_rfl) ?_
  show Yes _
  repeat' apply And.intro
  (all_goals first | rfl | assumption | trivial | omega | (simp [-List.getD_eq_getElem?_getD] <;> omega) | (simp (disch := omega) only [w64, wu64] <;> omega) | (simp (disch := omega) [-List.getD_eq_getElem?_getD, List.getD_cons_zero, List.getD_cons_succ, kCast_self, dfl_pair, dfl_int, w64, wu64] <;> omega) | (rw [Bool.eq_iff_iff]; simp (disch := omega) [-List.getD_eq_getElem?_getD, List.getD_cons_zero, List.getD_cons_succ, kCast_self, dfl_pair, dfl_int, w64, wu64] <;> omega) | (simp_all [-List.getD_eq_getElem?_getD] <;> omega))
end Go.Proofs.YthlpfafmiakfdaaDoor.E
