/- Several texts in one. -/
import Derived.Test.YtnheodgffackoaaDoorPstp
import Derived.Test.YtnheodgffackoaaDoorPhne
import Derived.Test.YtnheodgffackoaaDoorYall
/- Package hall: a hall as a whole, by the plain machine. -/
namespace Go.Proofs.YtnheodgffackoaaDoor.E
set_option linter.unusedSimpArgs false
set_option linter.unusedVariables false
open Go Go.Proofs.YtnheodgffackoaaDoor.Y
set_option maxRecDepth 100000
/-- A call that began once: its pointer, whose it is, how many steps it took, and what it is at. -/
structure LE where
  u : Value
  w : Nat
  st : Nat
  c : Cl
def msOf (V : HV) (L : List LE) : List BMem := L.map fun e => (e.u, callOs V e.w e.st e.c)
def entD (e : EntT) : Int × O2 × O2 := (e.1, e.2.1, e.2.2.1)
def dnD (d : Dn) : Int × O2 × O2 := ((d.1 : Int), d.2.1, d.2.2)
structure HRep (V : HV) (hV : V.Ok) (h : HH) (L : List LE) (cur : Nat → Option Nat) (S : Y.St) : Prop where
  is : HallIs V h S.M
  inv : Y.Inv (V.par hV) S
  usl : h.us.length = V.n
  us : ∀ w i, w < V.n → cur w = some i → ∃ e, L[i]? = some e ∧ e.w = w ∧ h.us[w]? = some e.u ∧ S.cl w = some e.c
  us0 : ∀ w, w < V.n → cur w = none → h.us[w]? = some (.pointer none) ∧ S.cl w = none
  bnd : ∀ e, e ∈ L → e.c.left ≤ 100 ∧ isP e.u = true ∧ nilP e.u = false
  es : h.es.map entD = S.ents.map dnD
theorem msOf_get {V : HV} {L : List LE} {i : Nat} {e : LE} (h : L[i]? = some e) : (msOf V L)[i]? = some (e.u, callOs V e.w e.st e.c) := by unfold msOf; rw [List.getElem?_map, h]; rfl
theorem msOf_set {V : HV} {L : List LE} {i : Nat} {e : LE} : (msOf V L).set i (e.u, callOs V e.w e.st e.c) = msOf V (L.set i e) := by unfold msOf; rw [List.map_set]
theorem msOf_add {V : HV} {L : List LE} {e : LE} : msOf V L ++ [(e.u, callOs V e.w e.st e.c)] = msOf V (L ++ [e]) := by unfold msOf; rw [List.map_append]; rfl
theorem hS_us (V : HV) (w : Nat) (c : Cl) (M : M3) (h : HH) : (hS V w c M h).us = h.us := by
  unfold hS
  cases c.pc <;> first | rfl | (simp only; split <;> rfl)
theorem hS_es (V : HV) (hV : V.Ok) (w : Nat) (c : Cl) (M : M3) (h : HH) : (hS V w c M h).es.map entD = h.es.map entD ++ (stepC (V.par hV) w M c).2.2.map dnD := by
  unfold hS stepC
  cases hp : c.pc <;> simp only
  case swing =>
    by_cases e : M.head = c.href
    · rw [if_pos e, if_pos e]
      show (h.es ++ c.done.map (entE _)).map entD = _
      rw [List.map_append, List.map_map]
      rfl
    · rw [if_neg e, if_neg e]; simp [HH.mem]
  all_goals first
    | (simp [HH.mem]; done)
    | (split <;> simp [HH.mem]; done)
    | (split <;> (try split) <;> simp [HH.mem]; done)
/-- The step that a worker makes next. -/
def stepE (V : HV) (hV : V.Ok) (M : M3) (e : LE) : LE := ⟨e.u, e.w, stOf e.st e.c, (stepC (V.par hV) e.w M e.c).2.1⟩
theorem HRep.stp {V : HV} {hV : V.Ok} {h : HH} {L : List LE} {cur : Nat → Option Nat} {S : Y.St} (r : HRep V hV h L cur S) {i : Nat} {e : LE} (hw : e.w < V.n) (hc : cur e.w = some i) (he : L[i]? = some e) :
    HRep V hV (hS V e.w e.c S.M h) (L.set i (stepE V hV S.M e)) cur (S.step (V.par hV) e.w) := by
  obtain ⟨e', a1, a2, a3, a4⟩ := r.us _ _ hw hc
  rw [he] at a1; cases a1
  have hil := (List.getElem?_eq_some_iff.1 he).1
  have hbe := r.bnd e (List.mem_of_getElem? he)
  have ok : StepOk V S.M e.w e.c := stepOk_of r.inv hw a4 (by omega)
  have his := hS_is (hV := hV) r.is ok
  have hM : (S.step (V.par hV) e.w).M = (stepC (V.par hV) e.w S.M e.c).1 ∧ (S.step (V.par hV) e.w).cl e.w = some (stepC (V.par hV) e.w S.M e.c).2.1 ∧ (∀ q, q ≠ e.w → (S.step (V.par hV) e.w).cl q = S.cl q) ∧ (S.step (V.par hV) e.w).ents = S.ents ++ (stepC (V.par hV) e.w S.M e.c).2.2 := by
    by_cases hp : e.c.pc = .over
    · rw [step_over a4 hp]
      unfold stepC
      rw [hp]
      exact ⟨rfl, a4, fun _ _ => rfl, (List.append_nil _).symm⟩
    · rw [step_eq a4 hp]
      exact ⟨rfl, updF_self .., fun q hq => updF_ne _ _ hq, rfl⟩
  obtain ⟨m1, m2, m3, m4⟩ := hM
  refine ⟨by rw [m1]; exact his, r.inv.step hw, by rw [hS_us]; exact r.usl, fun q j hq hj => ?_, fun q hq hj => ?_, fun x hx => ?_, ?_⟩
  · by_cases eq : q = e.w
    · subst eq
      rw [hc] at hj; cases hj
      exact ⟨stepE V hV S.M e, List.getElem?_set_self hil, rfl, by rw [hS_us]; exact a3, m2⟩
    · obtain ⟨x, b1, b2, b3, b4⟩ := r.us q j hq hj
      have hne : i ≠ j := by rintro rfl; rw [he] at b1; cases b1; exact eq b2.symm
      exact ⟨x, by rw [List.getElem?_set_ne hne]; exact b1, b2, by rw [hS_us]; exact b3, by rw [m3 q eq]; exact b4⟩
  · obtain ⟨b1, b2⟩ := r.us0 q hq hj
    have eq : q ≠ e.w := by rintro rfl; rw [hc] at hj; cases hj
    exact ⟨by rw [hS_us]; exact b1, by rw [m3 q eq]; exact b2⟩
  · rcases List.mem_or_eq_of_mem_set hx with hx | rfl
    · exact r.bnd x hx
    · exact ⟨step_left S.M (by omega) hbe.1, hbe.2⟩
  · rw [hS_es V hV, m4, r.es, List.map_append]
theorem hstep_tri {V : HV} {hV : V.Ok} {h : HH} {L : List LE} {cur : Nat → Option Nat} {S : Y.St} (r : HRep V hV h L cur S) {i : Nat} {e : LE} (hw : e.w < V.n) (hc : cur e.w = some i) (he : L[i]? = some e) (hst : e.st ≤ 1000000000) (hes : h.es.length ≤ 100000000) (T : Nat) :
    Tri En 14 [.raw e.u] (hlBox V T (msOf V L) h) (.bl (ovr (stepE V hV S.M e).c)) (hlClosed V T (msOf V (L.set i (stepE V hV S.M e))) (hS V e.w e.c S.M h)) := by
  obtain ⟨e', a1, a2, a3, a4⟩ := r.us _ _ hw hc
  rw [he] at a1; cases a1
  have hbe := r.bnd e (List.mem_of_getElem? he)
  have ok : StepOk V S.M e.w e.c := stepOk_of r.inv hw a4 (by omega)
  have t := step_all (hV := hV) r.is ok hes hst (T := T) (msOf_get he)
  have e2 : (e.u, callOs V e.w (stOf e.st e.c) (stepC (V.par hV) e.w S.M e.c).2.1) = ((stepE V hV S.M e).u, callOs V (stepE V hV S.M e).w (stepE V hV S.M e).st (stepE V hV S.M e).c) := rfl
  rw [e2, msOf_set] at t
  exact t
/-- A call more. -/
theorem HRep.call {V : HV} {hV : V.Ok} {h : HH} {L : List LE} {cur : Nat → Option Nat} {S : Y.St} (r : HRep V hV h L cur S) {w : Nat} (hw : w < V.n) (hi : ∀ i e, cur w = some i → L[i]? = some e → e.c.pc = .over) {x : Value} (hx : isP x = true) (hx2 : nilP x = false) (op : O2) :
    HRep V hV { h with us := h.us.take w ++ x :: h.us.drop (w + 1) } (L ++ [⟨x, w, 0, newC V.tries op⟩]) (updF cur w (some L.length)) (S.call w (newC V.tries op)) := by
  have hidle : Idle S w := by
    cases hc : cur w with
    | none => exact .inl (r.us0 w hw hc).2
    | some i =>
      obtain ⟨e, a1, a2, a3, a4⟩ := r.us w i hw hc
      exact .inr ⟨e.c, a4, hi i e hc a1⟩
  have hfr : Fresh (newC V.tries op) := by
    refine ⟨rfl, ?_⟩
    unfold newC
    by_cases ht : 0 < V.tries
    · exact .inl ⟨if_pos ht, ht⟩
    · exact .inr (if_neg ht)
  have hlen : (h.us.take w).length = w := by have := r.usl; simp; omega
  have hus : h.us.take w ++ x :: h.us.drop (w + 1) = h.us.set w x := by
    have := r.usl
    rw [List.set_eq_take_append_cons_drop, if_pos (by omega)]
  refine ⟨⟨r.is.m, r.is.al, r.is.a⟩, r.inv.call hw hidle hfr, by rw [hus, List.length_set]; exact r.usl, fun q j hq hj => ?_, fun q hq hj => ?_, fun y hy => ?_, r.es⟩
  · show ∃ e, _ ∧ _ ∧ (h.us.take w ++ x :: h.us.drop (w + 1))[q]? = _ ∧ updF S.cl w _ q = _
    rw [hus]
    by_cases eq : q = w
    · subst eq
      rw [updF_self] at hj; cases hj
      exact ⟨⟨x, q, 0, newC V.tries op⟩, by simp, rfl, List.getElem?_set_self (by have := r.usl; omega), updF_self ..⟩
    · rw [updF_ne _ _ eq] at hj
      obtain ⟨e, a1, a2, a3, a4⟩ := r.us q j hq hj
      exact ⟨e, by rw [List.getElem?_append_left (List.getElem?_eq_some_iff.1 a1).1]; exact a1, a2, by rw [List.getElem?_set_ne (Ne.symm eq)]; exact a3, by rw [updF_ne _ _ eq]; exact a4⟩
  · show (h.us.take w ++ x :: h.us.drop (w + 1))[q]? = _ ∧ updF S.cl w _ q = _
    rw [hus]
    by_cases eq : q = w
    · subst eq; rw [updF_self] at hj; cases hj
    · rw [updF_ne _ _ eq] at hj
      obtain ⟨b1, b2⟩ := r.us0 q hq hj
      exact ⟨by rw [List.getElem?_set_ne (Ne.symm eq)]; exact b1, by rw [updF_ne _ _ eq]; exact b2⟩
  · rcases List.mem_append.1 hy with hy | hy
    · exact r.bnd y hy
    · rw [List.mem_singleton.1 hy]
      have := hV.t1
      exact ⟨this, hx, hx2⟩
theorem hcall_tri {V : HV} {hV : V.Ok} {h : HH} {L : List LE} {cur : Nat → Option Nat} {S : Y.St} (r : HRep V hV h L cur S) {w : Nat} (hw : w < V.n) (hi : ∀ i e, cur w = some i → L[i]? = some e → e.c.pc = .over) (op : O2) (T : Nat) :
    Tri En 13 [.ptr 1 0 0, .int .i64 w, opA op] (hlBox V T (msOf V L) h) (.ptr 8 0 0) (hlNew V T (msOf V L) h w (callOs V w 0 (newC V.tries op))) := by
  cases hc : cur w with
  | none => exact hall_call0 V hV h w hw op T _ (r.us0 w hw hc).1
  | some i =>
    obtain ⟨e, a1, a2, a3, a4⟩ := r.us w i hw hc
    exact hall_call1 V hV h w hw op T _ e.u a3 i e.w e.st e.c (hi i e hc a1) (msOf_get a1)
/-- At first. -/
def S0 (V : HV) : Y.St := ⟨M0 V, fun _ => none, [], fun _ => [], 0, fun _ => 0, fun _ => 0⟩
def H0 (V : HV) (m : MemS) : HH := ⟨m, List.replicate V.n 0, List.replicate V.n (.pointer none), []⟩
theorem inv0 (V : HV) (hV : V.Ok) : Y.Inv (V.par hV) (S0 V) := by
  have n0 := hV.n0
  have e : (curM (M0 V)).take (V.par hV).W = List.replicate (obW V.o) 0 := by
    show (List.replicate V.R 0).take (obW V.o) = _
    rw [List.take_replicate]
    have : obW V.o ≤ V.R := by unfold HV.R; omega
    rw [Nat.min_eq_left this]
  refine ⟨⟨n0, by show 0 < 2; omega, Nat.zero_le _⟩, fun w s _ _ => by simp [S0, M0]; rfl, by rw [show (S0 V).M = M0 V from rfl, e]; exact obOk_zero V.o, by rw [show (S0 V).M = M0 V from rfl, e]; rfl, fun w c _ h => (by cases h), fun w _ _ => ⟨?_, rfl⟩, fun p q c d _ _ h => (by cases h), fun p q c d _ _ h => (by cases h), fun p r _ h => (by cases h)⟩
  show (0 : Int) = (List.replicate V.R 0).getD _ 0
  simp only [List.getD, List.getElem?_replicate]
  split <;> rfl
theorem hrep0 {V : HV} (hV : V.Ok) {m : MemS} (hm : MemIs V m (M0 V)) : HRep V hV (H0 V m) [] (fun _ => none) (S0 V) :=
  ⟨⟨hm, by simp [H0], fun i hi => by simp [H0, S0, M0, List.getD, hi]⟩, inv0 V hV, by simp [H0], fun w i _ h => (by cases h), fun w hw _ => ⟨by simp [H0, hw], rfl⟩, fun e he => (by cases he), rfl⟩
end Go.Proofs.YtnheodgffackoaaDoor.E

/- Package hall: a worker that still asks may not ask again. -/
namespace Go.Proofs.YtnheodgffackoaaDoor.E
set_option linter.unusedSimpArgs false
set_option linter.unusedVariables false
open Go Go.Proofs.YtnheodgffackoaaDoor.Y
set_option maxRecDepth 100000
set_option maxHeartbeats 4000000
theorem hall_busy (V : HV) (hV : V.Ok) (h : HH) (w : Nat) (hw : w < V.n) (op : O2) (T : Nat) (ms : List BMem) (u : Value) (hus : h.us[w]? = some u) (i wk st : Nat) (c : Cl) (hc : c.pc = .load) (hi : ms[i]? = some (u, callOs V wk st c)) :
    Tri En 13 [.ptr 1 0 0, .int .i64 w, opA op] (hlBox V T ms h) .nilptr (hlClosed V T ms h) := by
  have hil := (List.getElem?_eq_some_iff.1 hi).1
  have ec : callOs V wk st c = [clN 0 (fnA 33) wk st c fBase] := by unfold callOs; rw [hc]
  have em : (ms.set i (u, [])).set i (u, callOs V wk st c) = ms := by
    rw [List.set_set, ← (List.getElem?_eq_some_iff.1 hi).2]; exact List.set_getElem_self _
  have t : Tri En 13 [.ptr 1 0 0, .int .i64 w, opA op] [.gone, hlC 2 7 4 5 6 V h.es.length, memC 3 h.m, memT h.m, .tab true (.int .u64) h.ask, .mix w (fun x y => x = h.us.take w ∧ y = h.us.drop (w + 1)) (.ptr 9 0 0), .tab true EntK h.es, obO V.o, .box T [1, 2] (BoxP (ms.set i (u, []))), clN 1 (fnA 33) wk st c fBase] .nilptr
      [.gone, hlC 2 7 4 5 6 V h.es.length, memC 3 h.m, memT h.m, .tab true (.int .u64) h.ask, .mix w (fun x y => x = h.us.take w ∧ y = h.us.drop (w + 1)) (.ptr 9 0 0), .tab true EntK h.es, obO V.o, .box T [1, 2] (BoxP (ms.set i (u, []))), clN 1 (fnA 33) wk st c fBase] := by
    obtain ⟨b, n, tt, o⟩ := V
    have n1 : n ≤ 200 := hV.n1
    have hw' : w < n := hw
    unfold opA
    cases o
    all_goals
      refine Tri.of Tryd.func13 rfl Tryd.call13 rfl ?_
      refine Goods.fin 2000 [.s 9 (some false) true true, .s 17 (some false) true true] mixed Tryd.func13 ?_
      show Yes _
      repeat' apply And.intro
      (all_goals first | rfl | assumption | trivial | omega | (simp [-List.getD_eq_getElem?_getD] <;> omega) | (simp (disch := omega) only [w64, wu64] <;> omega) | (simp (disch := omega) [-List.getD_eq_getElem?_getD, List.getD_cons_zero, List.getD_cons_succ, kCast_self, dfl_pair, dfl_int, w64, wu64] <;> omega) | (rw [Bool.eq_iff_iff]; simp (disch := omega) [-List.getD_eq_getElem?_getD, List.getD_cons_zero, List.getD_cons_succ, kCast_self, dfl_pair, dfl_int, w64, wu64] <;> omega) | (simp_all [-List.getD_eq_getElem?_getD] <;> omega))
  refine Tri.ghost2 (α := Unit) (fun _ => _) (fun _ => _) (fun _ => _) (fun _ => _) (fun _ ρ => Den ρ (.ptr 9 0 0) u) t.enters (fun B ρ wd vs hR hd => ?_) (fun _ ρ ρ' hm hF => ?_) (fun _ => by simp [hlBox, hlO]) (fun _ => t) (fun _ B ρ wd hF hR => ?_)
  · obtain ⟨ρ2, h1, h2, h3, h4⟩ := hR.openB (by simp [hlO]) hi (callOs_ne _ _ _ _)
    rw [ec] at h1 h4
    obtain ⟨r1, r2⟩ := RelH.callAt (a := [.gone, hlC 2 7 4 5 6 V h.es.length, memC 3 h.m, memT h.m, .tab true (.int .u64) h.ask]) (b := [.tab true EntK h.es, obO V.o, .box T [1, 2] (BoxP (ms.set i (u, []))), clN 1 (fnA 33) wk st c fBase]) (v := .ptr 9 0 0) h1 hus h2
    exact ⟨(), ρ2, r1, DenL.mono h3 hd, h2, h3, fun b hb => h4 b (r2 b hb)⟩
  · obtain ⟨l, h1, h2⟩ := hF
    exact ⟨l, hm 9 l (by simp) h1, h2⟩
  · -- the table of calls is as it was
    obtain ⟨l5, a1, a2⟩ := hR.obj 5 (by rw [hp_get]; simp)
    rw [hp_get] at a2
    obtain ⟨us, u', ws, z1, ⟨rfl, rfl⟩, hd, z2, z3, z4, z5⟩ := (a2 : ObjRel B ρ wd l5 (.mix w (fun x y => x = h.us.take w ∧ y = h.us.drop (w + 1)) (.ptr 9 0 0)))
    have hu' : u' = u := by
      obtain ⟨l, b1, b2⟩ := hd
      obtain ⟨l', b3, b4⟩ := hF
      rw [b1] at b3; cases b3
      rw [b2, b4]
    subst hu'
    have hus2 := (us_split hus).1
    obtain ⟨r1, r2⟩ := hR.mid (a := [.gone, hlC 2 7 4 5 6 V h.es.length, memC 3 h.m, memT h.m, .tab true (.int .u64) h.ask]) (b := [.tab true EntK h.es, obO V.o, .box T [1, 2] (BoxP (ms.set i (u', []))), clN 1 (fnA 33) wk st c fBase]) (x := .tab true .raw h.us) a1 (by simp) ⟨z2, hus2 ▸ z3, hus2 ▸ z4, z5⟩ (fun hh => hh)
    obtain ⟨ρ', s1, s2, s3, s4⟩ := RelH.closeW (osA := hlClosedA V h) (subs := callOs V wk st c) (ps := []) (vs := []) (q0 := 8) (c := 9) (k0 := 8) (i := i) (u := u') r1 (by rw [hp_get]; rfl) (by rw [List.length_set]; exact hil) (fun m hm => by rw [List.getElem?_set_self hil] at hm; cases hm; rfl) hF (callOs_plain ..) (by omega) (by simp [hlClosedA]) (by
      rw [ec]
      clear r1 r2 hF hR t
      obtain ⟨b, n, tt, o⟩ := V
      cases o
      all_goals
        show Yes _
        repeat' apply And.intro
        (all_goals first | rfl | assumption | trivial | omega | (simp [-List.getD_eq_getElem?_getD] <;> omega) | (simp (disch := omega) only [w64, wu64] <;> omega) | (simp (disch := omega) [-List.getD_eq_getElem?_getD, List.getD_cons_zero, List.getD_cons_succ, kCast_self, dfl_pair, dfl_int, w64, wu64] <;> omega) | (rw [Bool.eq_iff_iff]; simp (disch := omega) [-List.getD_eq_getElem?_getD, List.getD_cons_zero, List.getD_cons_succ, kCast_self, dfl_pair, dfl_int, w64, wu64] <;> omega) | (simp_all [-List.getD_eq_getElem?_getD] <;> omega))) (callOs_ne _ _ _ _)
    rw [em] at s1 s3
    exact ⟨ρ', s1, s2, fun b hb => r2 b (s3 b hb), fun x hx => hx⟩
end Go.Proofs.YtnheodgffackoaaDoor.E

/- Package hall: one call, alone, step by step. -/
namespace Go.Proofs.YtnheodgffackoaaDoor.E
set_option linter.unusedSimpArgs false
set_option linter.unusedVariables false
open Go Go.Proofs.YtnheodgffackoaaDoor.Y
set_option maxRecDepth 100000
theorem hS_len {V : HV} {w : Nat} {c : Cl} {M : M3} {h : HH} (ok : StepOk V M w c) : (hS V w c M h).es.length ≤ h.es.length + 1000 := by
  have o := ok.at_
  unfold hS
  cases hp : c.pc <;> rw [hp] at o <;> simp only at o ⊢
  case swing =>
    split
    · have := (o.2.2 trivial).2.1
      show (h.es ++ c.done.map _).length ≤ _
      simp; omega
    · show h.es.length ≤ _; omega
  all_goals (show h.es.length ≤ _; omega)
/-- A hall in which only the last of some calls steps. -/
structure R1 where
  h : HH
  L : List LE
  e : LE
  S : Y.St
def R1.all (s : R1) : List LE := s.L ++ [s.e]
def rstep (V : HV) (hV : V.Ok) (s : R1) : R1 := ⟨hS V s.e.w s.e.c s.S.M s.h, s.L, stepE V hV s.S.M s.e, s.S.step (V.par hV) s.e.w⟩
def rrun (V : HV) (hV : V.Ok) (s : R1) : Nat → R1
  | 0 => s
  | k + 1 => rstep V hV (rrun V hV s k)
structure RunOk (V : HV) (hV : V.Ok) (s : R1) (cur : Nat → Option Nat) (k : Nat) (t : R1) : Prop where
  rep : HRep V hV t.h t.all cur t.S
  L : t.L = s.L
  u : t.e.u = s.e.u
  w : t.e.w = s.e.w
  st : t.e.st ≤ s.e.st + k
  S : t.S = s.S.steps (V.par hV) s.e.w k
  es : t.h.es.length ≤ s.h.es.length + 1000 * k
theorem all_get (s : R1) : s.all[s.L.length]? = some s.e := by simp [R1.all]
theorem all_set (s : R1) (e : LE) : s.all.set s.L.length e = s.L ++ [e] := by simp [R1.all]
theorem rrun_ok {V : HV} {hV : V.Ok} {s : R1} {cur : Nat → Option Nat} (r : HRep V hV s.h s.all cur s.S) (hw : s.e.w < V.n) (hc : cur s.e.w = some s.L.length) : ∀ k, RunOk V hV s cur k (rrun V hV s k)
  | 0 => ⟨r, rfl, rfl, rfl, Nat.le_refl _, rfl, Nat.le_refl _⟩
  | k + 1 => by
    have ih := rrun_ok r hw hc k
    have hw2 : (rrun V hV s k).e.w < V.n := by rw [ih.w]; exact hw
    have hc2 : cur (rrun V hV s k).e.w = some (rrun V hV s k).L.length := by rw [ih.w, ih.L]; exact hc
    have r2 := ih.rep.stp hw2 hc2 (all_get _)
    rw [all_set] at r2
    obtain ⟨e', a1, a2, a3, a4⟩ := ih.rep.us _ _ hw2 hc2
    rw [all_get] at a1; cases a1
    have hb := ih.rep.bnd _ (List.mem_of_getElem? (all_get (rrun V hV s k)))
    have ok : StepOk V (rrun V hV s k).S.M (rrun V hV s k).e.w (rrun V hV s k).e.c := stepOk_of ih.rep.inv hw2 a4 (by omega)
    refine ⟨r2, ih.L, ih.u, ih.w, ?_, ?_, ?_⟩
    · show stOf _ _ ≤ _
      have := ih.st
      unfold stOf
      split <;> omega
    · show ((rrun V hV s k).S).step _ (rrun V hV s k).e.w = _
      rw [ih.w, ih.S]; rfl
    · have := hS_len (h := (rrun V hV s k).h) ok
      have := ih.es
      show (hS V _ _ _ _).es.length ≤ _
      omega
theorem rrun_tri {V : HV} {hV : V.Ok} {s : R1} {cur : Nat → Option Nat} (r : HRep V hV s.h s.all cur s.S) (hw : s.e.w < V.n) (hc : cur s.e.w = some s.L.length) (k : Nat) (hst : s.e.st + k ≤ 1000000000) (hes : s.h.es.length + 1000 * k ≤ 100000000) (T : Nat) :
    Tri En 14 [.raw s.e.u] (hlBox V T (msOf V (rrun V hV s k).all) (rrun V hV s k).h) (.bl (ovr (rrun V hV s (k + 1)).e.c)) (hlClosed V T (msOf V (rrun V hV s (k + 1)).all) (rrun V hV s (k + 1)).h) := by
  have ih := rrun_ok r hw hc k
  have hw2 : (rrun V hV s k).e.w < V.n := by rw [ih.w]; exact hw
  have hc2 : cur (rrun V hV s k).e.w = some (rrun V hV s k).L.length := by rw [ih.w, ih.L]; exact hc
  have t := hstep_tri ih.rep hw2 hc2 (all_get _) (by have := ih.st; omega) (by have := ih.es; omega) T
  rw [all_set, ih.u] at t
  exact t
theorem rrun_cl {V : HV} {hV : V.Ok} {s : R1} {cur : Nat → Option Nat} (r : HRep V hV s.h s.all cur s.S) (hw : s.e.w < V.n) (hc : cur s.e.w = some s.L.length) (k : Nat) : (s.S.steps (V.par hV) s.e.w k).cl s.e.w = some (rrun V hV s k).e.c := by
  have ih := rrun_ok r hw hc k
  obtain ⟨e', a1, a2, a3, a4⟩ := ih.rep.us s.e.w s.L.length hw hc
  rw [← ih.L, all_get] at a1; cases a1
  rw [← ih.S]; exact a4
end Go.Proofs.YtnheodgffackoaaDoor.E
