/- Package hall: what is looked at from outside. -/
import Derived.Test.YtnheodgffackoaaDoorPhnad
namespace Go.Proofs.YtnheodgffackoaaDoor.E
set_option linter.unusedSimpArgs false
set_option linter.unusedVariables false
open Go Go.Proofs.YtnheodgffackoaaDoor.Y
set_option maxRecDepth 100000
set_option maxHeartbeats 4000000
/-- What a call answers. -/
def ansV (c : Cl) : AV := if ovr2 c then .tuple [opA c.ans, .bl true] else .tuple [opA (0, 0), .bl false]
where ovr2 (c : Cl) : Bool := match c.pc with
  | .over => true
  | _ => false
theorem tup_any (a : O2) (b : Bool) : ∀ ρ ρ' x, Den ρ (.tuple [opA a, .bl b]) x → Den ρ' (.tuple [opA a, .bl b]) x := fun ρ ρ' x h => by
  obtain ⟨c, rfl, v1, vs1, e1, h1, v2, vs2, e2, h2, e3⟩ := h
  obtain ⟨c2, rfl, w1, ws1, f1, g1, w2, ws2, f2, g2, f3⟩ := h1
  simp only [Den, DenL] at g1 g2 f3 h2 e3
  refine ⟨_, rfl, _, _, e1, ⟨_, rfl, _, _, f1, g1, _, _, f2, g2, f3⟩, _, _, e2, h2, e3⟩
theorem int_any (k : IntKind) (n : Int) : ∀ ρ ρ' x, Den ρ (.int k n) x → Den ρ' (.int k n) x := fun _ _ _ h => h
/-- A call is looked at in its box. -/
theorem look_lift {f : FuncId} {V : HV} {h : HH} {wk st : Nat} {c : Cl} {u : Value} {ms : List BMem} {i T : Nat} {v : AV} (hi : ms[i]? = some (u, callOs V wk st c)) (hv : ∀ ρ ρ' x, Den ρ v x → Den ρ' v x)
    (t : Tri En f [.ptr 9 0 0] ((.gone :: hlO V h) ++ .box T [1, 2] (BoxP (ms.set i (u, []))) :: (callOs V wk st c).map (renO (sh 7))) v ((.gone :: hlO V h) ++ .box T [1, 2] (BoxP (ms.set i (u, []))) :: (callOs V wk st c).map (renO (sh 7))))
    (hy : Yes (closeA ((.gone :: hlO V h) ++ .box T [1, 2] (BoxP (ms.set i (u, []))) :: (callOs V wk st c).map (renO (sh 7))) (hlClosedA V h) (callOs V wk st c) 8 9 8)) : Tri En f [.raw u] (hlBox V T ms h) v (hlClosed V T ms h) := by
  have := step_lift (h' := h) (c' := c) (st' := st) hi hv t rfl hy
  rwa [show ms.set i (u, callOs V wk st c) = ms by rw [← (List.getElem?_eq_some_iff.1 hi).2]; exact List.set_getElem_self _] at this
theorem call_answer {V : HV} {h : HH} {wk st : Nat} {c : Cl} {u : Value} {ms : List BMem} {i T : Nat} (hi : ms[i]? = some (u, callOs V wk st c)) : Tri En 15 [.raw u] (hlBox V T ms h) (ansV c) (hlClosed V T ms h) := by
  obtain ⟨b, n, tt, o⟩ := V
  unfold ansV ansV.ovr2
  cases hp : c.pc <;> simp only [if_true, if_false, Bool.false_eq_true] <;> refine look_lift hi (tup_any _ _) ?_ ?_ <;> (unfold callOs; rw [hp]; (try unfold opA); simp only)
  all_goals first
    | (cases o <;> (show Yes _) <;> (repeat' apply And.intro) <;> (all_goals first | rfl | assumption | trivial | omega | (simp [-List.getD_eq_getElem?_getD] <;> omega) | (simp (disch := omega) only [w64, wu64] <;> omega) | (simp (disch := omega) [-List.getD_eq_getElem?_getD, List.getD_cons_zero, List.getD_cons_succ, kCast_self, dfl_pair, dfl_int, w64, wu64] <;> omega) | (rw [Bool.eq_iff_iff]; simp (disch := omega) [-List.getD_eq_getElem?_getD, List.getD_cons_zero, List.getD_cons_succ, kCast_self, dfl_pair, dfl_int, w64, wu64] <;> omega) | (simp_all [-List.getD_eq_getElem?_getD] <;> omega)))
    | (cases o
       all_goals
         refine Tri.of Tryd.func15 rfl Tryd.call15 rfl ?_
         refine Goods.fin 2000 [] mixed Tryd.func15 ?_
         show Yes _
         repeat' apply And.intro
         (all_goals first | rfl | assumption | trivial | omega | (simp [-List.getD_eq_getElem?_getD] <;> omega) | (simp (disch := omega) only [w64, wu64] <;> omega) | (simp (disch := omega) [-List.getD_eq_getElem?_getD, List.getD_cons_zero, List.getD_cons_succ, kCast_self, dfl_pair, dfl_int, w64, wu64] <;> omega) | (rw [Bool.eq_iff_iff]; simp (disch := omega) [-List.getD_eq_getElem?_getD, List.getD_cons_zero, List.getD_cons_succ, kCast_self, dfl_pair, dfl_int, w64, wu64] <;> omega) | (simp_all [-List.getD_eq_getElem?_getD] <;> omega)))
theorem call_steps {V : HV} {h : HH} {wk st : Nat} {c : Cl} {u : Value} {ms : List BMem} {i T : Nat} (hi : ms[i]? = some (u, callOs V wk st c)) : Tri En 21 [.raw u] (hlBox V T ms h) (.int .i64 st) (hlClosed V T ms h) := by
  obtain ⟨b, n, tt, o⟩ := V
  cases hp : c.pc <;> refine look_lift hi (int_any _ _) ?_ ?_ <;> (unfold callOs; rw [hp]; simp only)
  all_goals first
    | (cases o <;> (show Yes _) <;> (repeat' apply And.intro) <;> (all_goals first | rfl | assumption | trivial | omega | (simp [-List.getD_eq_getElem?_getD] <;> omega) | (simp (disch := omega) only [w64, wu64] <;> omega) | (simp (disch := omega) [-List.getD_eq_getElem?_getD, List.getD_cons_zero, List.getD_cons_succ, kCast_self, dfl_pair, dfl_int, w64, wu64] <;> omega) | (rw [Bool.eq_iff_iff]; simp (disch := omega) [-List.getD_eq_getElem?_getD, List.getD_cons_zero, List.getD_cons_succ, kCast_self, dfl_pair, dfl_int, w64, wu64] <;> omega) | (simp_all [-List.getD_eq_getElem?_getD] <;> omega)))
    | (cases o
       all_goals
         refine Tri.of Tryd.func21 rfl Tryd.call21 rfl ?_
         refine Goods.fin 2000 [] mixed Tryd.func21 ?_
         show Yes _
         repeat' apply And.intro
         (all_goals first | rfl | assumption | trivial | omega | (simp [-List.getD_eq_getElem?_getD] <;> omega) | (simp (disch := omega) only [w64, wu64] <;> omega) | (simp (disch := omega) [-List.getD_eq_getElem?_getD, List.getD_cons_zero, List.getD_cons_succ, kCast_self, dfl_pair, dfl_int, w64, wu64] <;> omega) | (rw [Bool.eq_iff_iff]; simp (disch := omega) [-List.getD_eq_getElem?_getD, List.getD_cons_zero, List.getD_cons_succ, kCast_self, dfl_pair, dfl_int, w64, wu64] <;> omega) | (simp_all [-List.getD_eq_getElem?_getD] <;> omega)))
theorem hall_count (V : HV) (h : HH) : Tri En 17 [.ptr 1 0 0] (.gone :: hlO V h) (.int .i64 h.es.length) (.gone :: hlO V h) := by
  obtain ⟨b, n, tt, o⟩ := V
  cases o
  all_goals
    refine Tri.of Tryd.func17 rfl Tryd.call17 rfl ?_
    refine Goods.fin 2000 [] mixed Tryd.func17 ?_
    show Yes _
    repeat' apply And.intro
    (all_goals first | rfl | assumption | trivial | omega | (simp [-List.getD_eq_getElem?_getD] <;> omega) | (simp (disch := omega) only [w64, wu64] <;> omega) | (simp (disch := omega) [-List.getD_eq_getElem?_getD, List.getD_cons_zero, List.getD_cons_succ, kCast_self, dfl_pair, dfl_int, w64, wu64] <;> omega) | (rw [Bool.eq_iff_iff]; simp (disch := omega) [-List.getD_eq_getElem?_getD, List.getD_cons_zero, List.getD_cons_succ, kCast_self, dfl_pair, dfl_int, w64, wu64] <;> omega) | (simp_all [-List.getD_eq_getElem?_getD] <;> omega))
theorem clone_ent (own : Bool) (xs : List EntT) (hn : xs.length ≤ 17179869184) : Tri En 40 [.slice 0 0 xs.length] [.tab own EntK xs] (.slice 1 0 xs.length) [.tab own EntK xs, .tab true EntK xs] := by
  rcases Nat.eq_zero_or_pos xs.length with h0 | h0
  · obtain rfl : xs = [] := List.eq_nil_of_length_eq_zero h0
    refine Tri.slice0 (pre := []) (post := []) ?_ ?_
    · refine Tri.of Tryd.func40 rfl Tryd.call40 rfl ?_
      refine Goods.fin 2000 [] mixed Tryd.func40 ?_
      show Yes _
      repeat' apply And.intro
      (all_goals first | rfl | assumption | trivial | omega | (simp [-List.getD_eq_getElem?_getD] <;> omega) | (simp (disch := omega) only [w64, wu64] <;> omega) | (simp (disch := omega) [-List.getD_eq_getElem?_getD, List.getD_cons_zero, List.getD_cons_succ, kCast_self, dfl_pair, dfl_int, w64, wu64] <;> omega) | (rw [Bool.eq_iff_iff]; simp (disch := omega) [-List.getD_eq_getElem?_getD, List.getD_cons_zero, List.getD_cons_succ, kCast_self, dfl_pair, dfl_int, w64, wu64] <;> omega) | (simp_all [-List.getD_eq_getElem?_getD] <;> omega))
    · refine Tri.of Tryd.func40 rfl Tryd.call40 rfl ?_
      refine Goods.fin 2000 [] mixed Tryd.func40 ?_
      show Yes _
      repeat' apply And.intro
      (all_goals first | rfl | assumption | trivial | omega | (simp [-List.getD_eq_getElem?_getD] <;> omega) | (simp (disch := omega) only [w64, wu64] <;> omega) | (simp (disch := omega) [-List.getD_eq_getElem?_getD, List.getD_cons_zero, List.getD_cons_succ, kCast_self, dfl_pair, dfl_int, w64, wu64] <;> omega) | (rw [Bool.eq_iff_iff]; simp (disch := omega) [-List.getD_eq_getElem?_getD, List.getD_cons_zero, List.getD_cons_succ, kCast_self, dfl_pair, dfl_int, w64, wu64] <;> omega) | (simp_all [-List.getD_eq_getElem?_getD] <;> omega))
  · refine Tri.of Tryd.func40 rfl Tryd.call40 rfl ?_
    refine Goods.fin 2000 [] mixed Tryd.func40 ?_
    show Yes _
    repeat' apply And.intro
    (all_goals first | rfl | assumption | trivial | omega | (simp [-List.getD_eq_getElem?_getD] <;> omega) | (simp (disch := omega) only [w64, wu64] <;> omega) | (simp (disch := omega) [-List.getD_eq_getElem?_getD, List.getD_cons_zero, List.getD_cons_succ, kCast_self, dfl_pair, dfl_int, w64, wu64] <;> omega) | (rw [Bool.eq_iff_iff]; simp (disch := omega) [-List.getD_eq_getElem?_getD, List.getD_cons_zero, List.getD_cons_succ, kCast_self, dfl_pair, dfl_int, w64, wu64] <;> omega) | (simp_all [-List.getD_eq_getElem?_getD] <;> omega))
theorem hall_entries (V : HV) (h : HH) (hn : h.es.length ≤ 17179869184) : Tri En 28 [.ptr 1 0 0] (.gone :: hlO V h) (.slice 8 0 h.es.length) ((.gone :: hlO V h) ++ [.tab true EntK h.es]) := by
  have c1 := clone_ent true h.es hn
  obtain ⟨b, n, tt, o⟩ := V
  cases o
  all_goals
    refine Tri.of Tryd.func28 rfl Tryd.call28 rfl ?_
    refine Goods.fin 2000 [.c (.of c1)] mixed Tryd.func28 ?_
    show Yes _
    repeat' apply And.intro
    (all_goals first | rfl | assumption | trivial | omega | (simp [-List.getD_eq_getElem?_getD] <;> omega) | (simp (disch := omega) only [w64, wu64] <;> omega) | (simp (disch := omega) [-List.getD_eq_getElem?_getD, List.getD_cons_zero, List.getD_cons_succ, kCast_self, dfl_pair, dfl_int, w64, wu64] <;> omega) | (rw [Bool.eq_iff_iff]; simp (disch := omega) [-List.getD_eq_getElem?_getD, List.getD_cons_zero, List.getD_cons_succ, kCast_self, dfl_pair, dfl_int, w64, wu64] <;> omega) | (simp_all [-List.getD_eq_getElem?_getD] <;> omega))
noncomputable abbrev gHs (V : HV) (h : HH) (L : List Int) : Frm := ⟨En, 16, Tryd.f16.ntmps, .gone :: hlO V h, .slice 8 0 (obW V.o), (.gone :: hlO V h) ++ [.tab true (.int .u64) L]⟩
theorem hs_0 (V : HV) (hV : V.Ok) (h : HH) (M : M3) (hm : MemIs V h.m M) (hb : M.head.1 < V.n ∧ M.head.2.1 < 2) (L : List Int) (hL : L.length = obW V.o) (hL2 : ∀ k, k < obW V.o → (curM M).getD k 0 = L.getD k 0) : ∀ (j k : Nat), k + j = obW V.o →
    Goods (gHs V h L) ⟨.none, lp Tryd.f16 0, [(0, .ptr 1 0 0), (3, .ptr 8 0 0), (5, .slice 9 0 k), (25, .int .i64 (obW V.o : Nat)), (26, .int .i64 k)], hp ((.gone :: hlO V h) ++ [.cells [.int .i64 M.head.1, .int .i64 M.head.2.1, .int .i64 M.head.2.2], .tab true (.int .u64) (L.take k)])⟩
  | 0, k, hk => by
    obtain rfl : k = obW V.o := by omega
    rw [← hL, List.take_length]
    have hL' := hL
    unfold gHs
    rw [← hL]
    obtain ⟨b, n, tt, o⟩ := V
    cases o
    all_goals
      refine Goods.fin 2000 [.b false] mixed Tryd.func16 ?_
      show Yes _
      repeat' apply And.intro
      (all_goals first | rfl | assumption | trivial | omega | (simp [-List.getD_eq_getElem?_getD, hL'] <;> omega) | (simp (disch := omega) only [w64, wu64] <;> omega) | (simp (disch := omega) [-List.getD_eq_getElem?_getD, List.getD_cons_zero, List.getD_cons_succ, kCast_self, dfl_pair, dfl_int, w64, wu64, hL'] <;> omega) | (rw [Bool.eq_iff_iff]; simp (disch := omega) [-List.getD_eq_getElem?_getD, List.getD_cons_zero, List.getD_cons_succ, kCast_self, dfl_pair, dfl_int, w64, wu64, hL'] <;> omega) | (simp_all [-List.getD_eq_getElem?_getD] <;> omega))
  | j + 1, k, hk => by
    have n1 := hV.n1
    have ih := hs_0 V hV h M hm hb L hL hL2 j (k + 1) (by omega)
    have a1 := fr_at hV.fr (i := M.head.1) (s := M.head.2.1) (by omega) (by omega) (by omega) (by omega)
    rw [V.at_eq] at a1
    have hA := hV.at_le (w := M.head.1) (s := M.head.2.1) (by omega) (by omega)
    have hR := HV.R_le hV
    have hkR : k < V.R := by unfold HV.R; omega
    have p1 := mem_peek h.m ((V.at_ M.head.1 M.head.2.1 + k : Nat) : Int)
    rw [hm.rc _ _ k hb.1 hb.2 hkR] at p1
    have e1 : (M.rc M.head.1 M.head.2.1).getD k 0 = L.getD k 0 := hL2 k (by omega)
    rw [e1] at p1
    rw [Y.take_succ_getD (by omega)] at ih
    have hl0 : (L.take k).length = k := by simp; omega
    generalize L.take k = L0 at *
    generalize L.getD k 0 = x at *
    generalize V.at_ M.head.1 M.head.2.1 = A at *
    have hWR : obW V.o ≤ V.R := by unfold HV.R; omega
    generalize V.R = R at *
    obtain ⟨b, n, tt, o⟩ := V
    cases o
    all_goals
      refine Goods.to 2000 [.b true, .k 42 (.of a1), .k 45 (.of p1), .l, .stop] mixed (ih) (by kernel_rfl) ?_
      show Yes _
      repeat' apply And.intro
      (all_goals first | rfl | assumption | trivial | omega | (simp [-List.getD_eq_getElem?_getD] <;> omega) | (simp (disch := omega) only [w64, wu64] <;> omega) | (simp (disch := omega) [-List.getD_eq_getElem?_getD, List.getD_cons_zero, List.getD_cons_succ, kCast_self, dfl_pair, dfl_int, w64, wu64] <;> omega) | (rw [Bool.eq_iff_iff]; simp (disch := omega) [-List.getD_eq_getElem?_getD, List.getD_cons_zero, List.getD_cons_succ, kCast_self, dfl_pair, dfl_int, w64, wu64] <;> omega) | (simp_all [-List.getD_eq_getElem?_getD] <;> omega))
theorem hall_state' (V : HV) (hV : V.Ok) (h : HH) (M : M3) (hm : MemIs V h.m M) (hb : M.head.1 < V.n ∧ M.head.2.1 < 2 ∧ M.head.2.2 ≤ V.n) (L : List Int) (hL : L.length = obW V.o) (hL2 : ∀ k, k < obW V.o → (curM M).getD k 0 = L.getD k 0) : Tri En 16 [.ptr 1 0 0] (.gone :: hlO V h) (.slice 8 0 (obW V.o)) ((.gone :: hlO V h) ++ [.tab true (.int .u64) L]) := by
  have n1 := hV.n1
  have f1 := fr_head hV.fr
  have pk := mem_peek h.m V.b
  rw [hm.head] at pk
  have t1 : Tri En 35 [.int .u64 (wRf M.head : Nat)] [] (.tuple [refI M.head.1 M.head.2.1 M.head.2.2, .bl true]) [] := to_of M.head.1 M.head.2.1 M.head.2.2 (by omega) (by omega) (by omega)
  have i0 := hs_0 V hV h M hm ⟨hb.1, hb.2.1⟩ L hL hL2 (obW V.o) 0 (by omega)
  have ih := Goods.nilTmp (tp := [(0, .ptr 1 0 0), (3, .ptr 8 0 0)]) (tq := [(25, .int .i64 (obW V.o : Nat)), (26, .int .i64 ((0 : Nat) : Int))]) (os := (.gone :: hlO V h) ++ [.cells [.int .i64 M.head.1, .int .i64 M.head.2.1, .int .i64 M.head.2.2]]) (.int .u64) i0
  generalize wRf M.head = z at *
  obtain ⟨b, n, tt, o⟩ := V
  cases o
  all_goals
    refine Tri.of Tryd.func16 rfl Tryd.call16 rfl ?_
    refine Goods.to 2000 [.k 16 (.of f1), .k 17 (.of pk), .k 18 (.of t1), .l, .stop] mixed (ih) (by kernel_rfl) ?_
    show Yes _
    repeat' apply And.intro
    (all_goals first | rfl | assumption | trivial | omega | (simp [-List.getD_eq_getElem?_getD] <;> omega) | (simp (disch := omega) only [w64, wu64] <;> omega) | (simp (disch := omega) [-List.getD_eq_getElem?_getD, List.getD_cons_zero, List.getD_cons_succ, kCast_self, dfl_pair, dfl_int, w64, wu64] <;> omega) | (rw [Bool.eq_iff_iff]; simp (disch := omega) [-List.getD_eq_getElem?_getD, List.getD_cons_zero, List.getD_cons_succ, kCast_self, dfl_pair, dfl_int, w64, wu64] <;> omega) | (simp_all [-List.getD_eq_getElem?_getD] <;> omega))
end Go.Proofs.YtnheodgffackoaaDoor.E
