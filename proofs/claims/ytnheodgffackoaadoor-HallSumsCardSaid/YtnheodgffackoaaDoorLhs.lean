/- The laws of layer 10: speaks. -/
import Derived.Test.YtnheodgffackoaaDoorPhra
namespace Go.Proofs.YtnheodgffackoaaDoor.E
set_option linter.unusedSimpArgs false
set_option linter.unusedVariables false
open Go Go.Proofs.YtnheodgffackoaaDoor.Y
set_option maxRecDepth 100000
set_option maxHeartbeats 4000000
def V1 : HV := ⟨0, 1, 1, .counter⟩
theorem hV1 : V1.Ok := ⟨by show 0 ≤ 100000; omega, by show 0 < 1; omega, by show 1 ≤ 200; omega, by show 1 ≤ 100; omega⟩
def m100 : MemS := ⟨List.replicate 100 0, 0, 0, 0, 0⟩
def m101 : MemS := (m100.acc 2 0).put 0 (wRf (0, 0, 0) : Nat)
theorem get_zeros (n : Nat) (a b c d : Int) (q : Int) : (⟨List.replicate n 0, a, b, c, d⟩ : MemS).get q = 0 := by
  unfold MemS.get
  split
  · simp only [List.getD, List.getElem?_replicate]
    split <;> rfl
  · rfl
theorem rep1 : HRep V1 hV1 (H0 V1 m101) [] (fun _ => none) (S0 V1) := hrep0 hV1 (mem0 hV1 (by show 0 + 13 ≤ (List.replicate 100 0).length; rw [List.length_replicate]; omega) fun a _ _ => get_zeros ..)
def spH (x : Value) : HH := { H0 V1 m101 with us := (H0 V1 m101).us.take 0 ++ x :: (H0 V1 m101).us.drop (0 + 1) }
def spS (x : Value) : R1 := ⟨spH x, [], ⟨x, 0, 0, newC 1 (5, 0)⟩, (S0 V1).call 0 (newC 1 (5, 0))⟩
def cur1 : Nat → Option Nat := updF (fun _ => none) 0 (some 0)
theorem sp_rep {x : Value} (h1 : isP x = true) (h2 : nilP x = false) : HRep V1 hV1 (spS x).h (spS x).all cur1 (spS x).S := rep1.call (w := 0) (by show 0 < 1; omega) (fun i e h => by cases h) h1 h2 (5, 0)
/-- What the counter is at last. -/
structure SpEnd (t : R1) : Prop where
  ans : ansV t.e.c = .tuple [opA (0, 5), .bl true]
  len : t.h.es.length = 1
  mem : MemIs V1 t.h.m t.S.M
  head : t.S.M.head.1 < V1.n ∧ t.S.M.head.2.1 < 2 ∧ t.S.M.head.2.2 ≤ V1.n
  cur : ∀ k, k < 1 → (curM t.S.M).getD k 0 = [(5 : Int)].getD k 0
theorem sp_end {x : Value} (h1 : isP x = true) (h2 : nilP x = false) {N : Nat} (hN : 57 < N) : SpEnd (rrun V1 hV1 (spS x) N) := by
  have hr := sp_rep h1 h2
  have hw : (spS x).e.w < V1.n := by show 0 < 1; omega
  have hc : cur1 (spS x).e.w = some (spS x).L.length := rfl
  have ok := rrun_ok hr hw hc N
  have hcl := rrun_cl hr hw hc N
  have i0 : Y.Inv (V1.par hV1) (spS x).S := hr.inv
  have c0 : (spS x).S.cl 0 = some (newC 1 (5, 0)) := rfl
  have ws0 : Ws (V1.par hV1) (spS x).S := Ws.call ⟨fun d hd => (by cases hd), fun q c h => (by cases h)⟩ rfl
  have w0 : 0 < (V1.par hV1).n := by show 0 < 1; omega
  obtain ⟨c1, a1, a2, a3⟩ := steps_over (w := 0) w0 i0 c0 (n := N) hN
  obtain ⟨c2, b1, b2, b3⟩ := steps_hist (P := V1.par hV1) (w := 0) c0 (by intro e; cases e) N
  have hcl' : ((spS x).S.steps (V1.par hV1) 0 N).cl 0 = some (rrun V1 hV1 (spS x) N).e.c := hcl
  rw [a1] at b1; cases b1
  rw [a1] at hcl'; cases hcl'
  obtain ⟨b4, b5⟩ := b3.resolve_left fun h => h.1 a3
  have iE := steps_inv w0 i0 N
  have wE := steps_ws w0 i0 ws0 N
  have id1 := (iE.idle' w0 (.inr ⟨_, a1, a3⟩)).2
  rw [b5, show (spS x).S.hist 0 = [] from rfl, List.nil_append] at id1
  rw [mine_all fun d hd => by have := wE.ents d hd; have e : (V1.par hV1).n = 1 := rfl; omega] at id1
  have hrp := iE.rpl
  have e1 : ((spS x).S.steps (V1.par hV1) 0 N).ents.map (·.2.1) = [(5, 0)] := by
    have := congrArg (List.map (·.1)) id1
    rw [List.map_map] at this
    exact this
  have e2 : ((spS x).S.steps (V1.par hV1) 0 N).ents.map (·.2.2) = [(rrun V1 hV1 (spS x) N).e.c.ans] := by
    have := congrArg (List.map (·.2)) id1
    rw [List.map_map] at this
    exact this
  rw [e1, e2] at hrp
  have hap : rep (V1.par hV1).ap (List.replicate (V1.par hV1).W 0) [(5, 0)] = ([5], [(0, 5)]) := by
    show ([IntKind.u64.wrap ([(0 : Int)].getD 0 0 + 5)], [([(0 : Int)].getD 0 0, IntKind.u64.wrap ([(0 : Int)].getD 0 0 + 5))]) = _
    rfl
  rw [hap] at hrp
  injection hrp with p1 p2
  injection p2 with p2 _
  refine ⟨?_, ?_, ok.rep.is.m, ok.rep.inv.hd, fun k hk => ?_⟩
  · unfold ansV ansV.ovr2
    rw [a3, ← p2]; rfl
  · have := congrArg List.length ok.rep.es
    rw [List.length_map, List.length_map, ok.S] at this
    have h3 := congrArg List.length e1
    rw [List.length_map] at h3
    show (rrun V1 hV1 (spS x) N).h.es.length = 1
    rw [this]; exact h3
  · obtain rfl : k = 0 := by omega
    rw [ok.S]
    have h5 : (curM ((spS x).S.steps (V1.par hV1) 0 N).M).take 1 = [5] := p1.symm
    have h6 : (curM ((spS x).S.steps (V1.par hV1) 0 N).M).getD 0 0 = 5 := by
      cases hm : curM ((spS x).S.steps (V1.par hV1) 0 N).M with
      | nil => rw [hm] at h5; cases h5
      | cons a l => rw [hm] at h5; simp at h5; simp [h5]
    exact h6
noncomputable abbrev gSp : Frm := ⟨En, 9, Tryd.f9.ntmps, [], .bl true, []⟩
theorem sp_0 {x : Value} (h1 : isP x = true) (h2 : nilP x = false) : ∀ (j k : Nat), k + j = 100 → Goods gSp ⟨.none, lp Tryd.f9 0, [(2, .ptr 1 0 0), (3, .raw x), (27, .int .i64 k)], hp (hlBox V1 0 (msOf V1 (rrun V1 hV1 (spS x) k).all) (rrun V1 hV1 (spS x) k).h)⟩
  | 0, k, hk => by
    obtain ⟨e1, e2, e3, e4, e5⟩ := sp_end h1 h2 (N := k) (by omega)
    have ok := rrun_ok (sp_rep h1 h2) (by show 0 < 1; omega) rfl k
    have ha := call_answer (V := V1) (h := (rrun V1 hV1 (spS x) k).h) (T := 0) (msOf_get (all_get (rrun V1 hV1 (spS x) k)))
    rw [e1, ok.u] at ha
    have hs := hall_state' V1 hV1 (rrun V1 hV1 (spS x) k).h _ e3 e4 [5] rfl e5
    have hc := hall_count V1 (rrun V1 hV1 (spS x) k).h
    rw [e2] at hc
    have hn := hall_call_none V1 hV1 (rrun V1 hV1 (spS x) k).h 1 (by right; show (1 : Int) ≤ 1; omega) (0, 0)
    have hu : (spS x).e.u = x := rfl
    rw [hu] at ha
    unfold opA at ha hn
    generalize msOf V1 (rrun V1 hV1 (spS x) k).all = ms at *
    generalize (rrun V1 hV1 (spS x) k).h = H at *
    clear e1 e2 e3 e4 e5 ok hu
    refine Goods.fin 2000 [.b false, .c (.of ha), .c (.of hs), .s 43 (some true) true true, .s 48 (some true) true true, .s 54 (some true) true true, .k 58 (.of hc), .s 59 (some true) true true, .k 64 (.of hn)] mixed Tryd.func9 ?_
    show Yes _
    repeat' apply And.intro
    (all_goals first | rfl | assumption | trivial | omega | (simp [-List.getD_eq_getElem?_getD] <;> omega) | (simp (disch := omega) only [w64, wu64] <;> omega) | (simp (disch := omega) [-List.getD_eq_getElem?_getD, List.getD_cons_zero, List.getD_cons_succ, kCast_self, dfl_pair, dfl_int, w64, wu64] <;> omega) | (rw [Bool.eq_iff_iff]; simp (disch := omega) [-List.getD_eq_getElem?_getD, List.getD_cons_zero, List.getD_cons_succ, kCast_self, dfl_pair, dfl_int, w64, wu64] <;> omega) | (simp_all [-List.getD_eq_getElem?_getD] <;> omega))
  | j + 1, k, hk => by
    have ih := sp_0 h1 h2 j (k + 1) (by omega)
    have t := rrun_tri (sp_rep h1 h2) (by show 0 < 1; omega) rfl k (by show 0 + k ≤ _; omega) (by show 0 + 1000 * k ≤ _; omega) 0
    have hu : (spS x).e.u = x := rfl
    rw [hu] at t
    generalize msOf V1 (rrun V1 hV1 (spS x) k).all = ms at *
    generalize msOf V1 (rrun V1 hV1 (spS x) (k + 1)).all = ms2 at *
    generalize (rrun V1 hV1 (spS x) (k + 1)).h = H2 at *
    generalize (rrun V1 hV1 (spS x) k).h = H at *
    generalize ovr (rrun V1 hV1 (spS x) (k + 1)).e.c = ob at *
    refine Goods.to 2000 [.b true, .c (.of t), .l, .stop] mixed (ih) (by kernel_rfl) ?_
    show Yes _
    repeat' apply And.intro
    (all_goals first | rfl | assumption | trivial | omega | (simp [-List.getD_eq_getElem?_getD] <;> omega) | (simp (disch := omega) only [w64, wu64] <;> omega) | (simp (disch := omega) [-List.getD_eq_getElem?_getD, List.getD_cons_zero, List.getD_cons_succ, kCast_self, dfl_pair, dfl_int, w64, wu64] <;> omega) | (rw [Bool.eq_iff_iff]; simp (disch := omega) [-List.getD_eq_getElem?_getD, List.getD_cons_zero, List.getD_cons_succ, kCast_self, dfl_pair, dfl_int, w64, wu64] <;> omega) | (simp_all [-List.getD_eq_getElem?_getD] <;> omega))
theorem speaks_tri : Tri En 9 [] [] (.bl true) [] := by
  have t1 := mem_new 100
  rw [show (min (max (100 : Int) 0) 16777216).toNat = 100 by decide] at t1
  have t2 := hall_newB V1 hV1 0 m100
  have t3 := hcall_tri rep1 (w := 0) (by show 0 < 1; omega) (fun i e h => by cases h) (5, 0) 0
  have i8 : Goods gSp ⟨.none, rg Tryd.f9 8, [(2, .ptr 1 0 0), (3, .ptr 8 0 0)], hp (hlNew V1 0 (msOf V1 []) (H0 V1 m101) 0 (callOs V1 0 0 (newC V1.tries (5, 0))))⟩ := by
    refine Goods.name (q := 9) (j := 5) (T := 0) (a := 1) (b := 2) (k := 8) (wk := 0) (ms := msOf V1 []) (subs := callOs V1 0 0 (newC V1.tries (5, 0))) (us1 := (H0 V1 m101).us.take 0) (us2 := (H0 V1 m101).us.drop (0 + 1)) rfl rfl fun x h1 h2 => ?_
    have ih := sp_0 h1 h2 100 0 (by omega)
    have tb := hall_busy V1 hV1 (spH x) 0 (by show 0 < 1; omega) (0, 0) 0 (msOf V1 (spS x).all) x rfl 0 0 0 (newC 1 (5, 0)) rfl rfl
    have e0 : (rrun V1 hV1 (spS x) 0) = spS x := rfl
    rw [e0] at ih
    unfold opA at tb
    refine Goods.to 2000 [.s 20 (some false) true true, .k 24 (.of tb), .l, .stop] mixed (ih) (by kernel_rfl) ?_
    show Yes _
    repeat' apply And.intro
    (all_goals first | rfl | assumption | trivial | omega | (simp [-List.getD_eq_getElem?_getD] <;> omega) | (simp (disch := omega) only [w64, wu64] <;> omega) | (simp (disch := omega) [-List.getD_eq_getElem?_getD, List.getD_cons_zero, List.getD_cons_succ, kCast_self, dfl_pair, dfl_int, w64, wu64] <;> omega) | (rw [Bool.eq_iff_iff]; simp (disch := omega) [-List.getD_eq_getElem?_getD, List.getD_cons_zero, List.getD_cons_succ, kCast_self, dfl_pair, dfl_int, w64, wu64] <;> omega) | (simp_all [-List.getD_eq_getElem?_getD] <;> omega))
  unfold opA at t3
  refine Tri.of Tryd.func9 rfl Tryd.call9 rfl ?_
  refine Goods.to 2000 [.c (.of t1), .c (.of t2), .c (.of t3), .upto 8] mixed (i8) (by kernel_rfl) ?_
  show Yes _
  repeat' apply And.intro
  (all_goals first | rfl | assumption | trivial | omega | (simp [-List.getD_eq_getElem?_getD] <;> omega) | (simp (disch := omega) only [w64, wu64] <;> omega) | (simp (disch := omega) [-List.getD_eq_getElem?_getD, List.getD_cons_zero, List.getD_cons_succ, kCast_self, dfl_pair, dfl_int, w64, wu64] <;> omega) | (rw [Bool.eq_iff_iff]; simp (disch := omega) [-List.getD_eq_getElem?_getD, List.getD_cons_zero, List.getD_cons_succ, kCast_self, dfl_pair, dfl_int, w64, wu64] <;> omega) | (simp_all [-List.getD_eq_getElem?_getD] <;> omega))
end Go.Proofs.YtnheodgffackoaaDoor.E
