/- Several texts in one. -/
import Derived.Test.YtnheodgffackoaaDoorPmis
import Derived.Test.YtnheodgffackoaaDoorPst1
import Derived.Test.YtnheodgffackoaaDoorPst4
import Derived.Test.YtnheodgffackoaaDoorPst2
import Derived.Test.YtnheodgffackoaaDoorPst3
/- Package hall: any step, by the plain machine. -/
namespace Go.Proofs.YtnheodgffackoaaDoor.E
set_option linter.unusedSimpArgs false
set_option linter.unusedVariables false
open Go Go.Proofs.YtnheodgffackoaaDoor.Y
set_option maxRecDepth 100000
set_option maxHeartbeats 4000000
/-- What a step needs of the call, and of the words. -/
structure StepOk (V : HV) (M : M3) (w : Nat) (c : Cl) : Prop where
  w : w < V.n
  h1 : M.head.1 < V.n ∧ M.head.2.1 < 2 ∧ M.head.2.2 ≤ V.n
  len : ∀ w s, w < V.n → s < 2 → (M.rc w s).length = V.R
  held : ∀ p r, p < V.n → M.held p = some r → r.1 < V.n ∧ r.2.1 < 2 ∧ r.2.2 ≤ V.n
  left : c.pc ≠ .over → c.left ≤ 1000
  at_ : match c.pc with
    | .check | .swing => (c.href.1 < V.n ∧ c.href.2.1 < 2 ∧ c.href.2.2 ≤ V.n) ∧ 1 ≤ c.left ∧ (c.pc = .swing → c.cp.length = V.R ∧ c.done.length ≤ 1000 ∧ c.tag ≤ V.n)
    | .copying => (c.href.1 < V.n ∧ c.href.2.1 < 2) ∧ c.cp.length < V.R
    | .recheck => (c.href.1 < V.n ∧ c.href.2.1 < 2 ∧ c.href.2.2 ≤ V.n) ∧ 1 ≤ c.left ∧ c.cp.length = V.R
    | .ask | .askB => c.who < V.n ∧ c.cp.length = V.R ∧ obOk V.o (c.cp.take (obW V.o)) ∧ c.done.length ≤ 900
    | .askA => c.who < V.n
    | .scanning => c.pos < V.n ∧ c.used.length ≤ 1000 ∧ c.cp.length = V.R
    | .laying => c.cp.length = V.R ∧ c.laid < V.R
    | .lastA | .lastB => c.href.1 < V.n ∧ c.href.2.1 < 2
    | _ => True
theorem stepOk_of {V : HV} {hV : V.Ok} {S : Y.St} {w : Nat} {c : Cl} (h : Y.Inv (V.par hV) S) (hw : w < V.n) (hc : S.cl w = some c) (hl : c.left ≤ 1000) : StepOk V S.M w c := by
  have hL := h.loc w c hw hc
  have n1 := hV.n1
  refine ⟨hw, h.hd, h.len, h.held, fun _ => hl, ?_⟩
  unfold LocP at hL
  cases hp : c.pc <;> rw [hp] at hL <;> simp only at hL ⊢
  · exact ⟨⟨hL.2.1.h1, hL.2.1.h2, hL.2.1.h3⟩, hL.2.1.l1, fun e => by cases e⟩
  · exact ⟨⟨hL.2.1.h1, hL.2.1.h2⟩, hL.2.2.2.1⟩
  · exact ⟨⟨hL.2.1.h1, hL.2.1.h2, hL.2.1.h3⟩, hL.2.1.l1, hL.2.2.2.1⟩
  · refine ⟨hL.2.2.2.2.1, hL.2.2.2.1.len, hL.2.2.2.1.ok, ?_⟩
    have h1 : c.who < V.n := hL.2.2.2.2.1
    have h2 := hL.2.2.2.2.2
    omega
  · exact hL.2.2.2.2.1
  · refine ⟨hL.2.2.2.2.1, hL.2.2.2.1.len, hL.2.2.2.1.ok, ?_⟩
    have h1 : c.who < V.n := hL.2.2.2.2.1
    have h2 := hL.2.2.2.2.2.1
    omega
  · refine ⟨hL.2.2.2.2.2.1, ?_, hL.2.2.2.1.len⟩
    have h1 : c.pos < V.n := hL.2.2.2.2.2.1
    have h2 := hL.2.2.2.2.2.2
    omega
  · exact ⟨hL.2.2.2.1.len, hL.2.2.2.2.2.2.1⟩
  · refine ⟨⟨hL.2.1.h1, hL.2.1.h2, hL.2.1.h3⟩, hL.2.1.l1, fun _ => ⟨hL.2.2.2.1.len, ?_, hL.2.2.2.2.2.1⟩⟩
    have h1 : c.who = V.n := hL.2.2.2.2.1
    have h2 := hL.2.2.2.1.dl
    omega
  · exact ⟨hL.2.2.2.1, hL.2.2.2.2.1⟩
  · exact ⟨hL.2.2.2.1, hL.2.2.2.2.1⟩
/-- What a hall has behind a step. -/
def hS (V : HV) (w : Nat) (c : Cl) (M : M3) (h : HH) : HH := match c.pc with
  | .load | .check | .recheck | .last => h.mem (h.m.acc 1 V.b)
  | .hold => h.mem ((h.m.acc 2 ((V.b + 1 + w : Nat) : Int)).put ((V.b + 1 + w : Nat) : Int) (wRf c.href : Nat))
  | .copying => h.mem (h.m.acc 1 ((V.at_ c.href.1 c.href.2.1 + c.cp.length : Nat) : Int))
  | .ask => h.mem (h.m.acc 1 ((V.b + 1 + c.who + V.n : Nat) : Int))
  | .askA => h.mem (h.m.acc 1 ((V.b + 1 + c.who + 2 * V.n : Nat) : Int))
  | .askB => h.mem (h.m.acc 1 ((V.b + 1 + c.who + 3 * V.n : Nat) : Int))
  | .scanning => h.mem (h.m.acc 1 ((V.b + 1 + c.pos : Nat) : Int))
  | .laying => h.mem ((h.m.acc 2 ((V.at_ w (sideC w c.href) + c.laid : Nat) : Int)).put ((V.at_ w (sideC w c.href) + c.laid : Nat) : Int) (c.cp.getD c.laid 0))
  | .swing => if M.head = c.href then { h with m := (h.m.acc 4 V.b).put V.b (wRf (c.to w) : Nat), es := h.es ++ c.done.map (entE (inc h.m.ops)) } else h.mem (h.m.acc 4 V.b)
  | .tellA => h.mem ((h.m.acc 2 ((V.b + 1 + w + 2 * V.n : Nat) : Int)).put ((V.b + 1 + w + 2 * V.n : Nat) : Int) c.op.1)
  | .tellB => h.mem ((h.m.acc 2 ((V.b + 1 + w + 3 * V.n : Nat) : Int)).put ((V.b + 1 + w + 3 * V.n : Nat) : Int) c.op.2)
  | .tell => { h with m := (h.m.acc 2 ((V.b + 1 + w + V.n : Nat) : Int)).put ((V.b + 1 + w + V.n : Nat) : Int) (IntKind.u64.wrap (M.asked w + 1)), ask := h.ask.set w (IntKind.u64.wrap (M.asked w + 1)) }
  | .lastA => h.mem (h.m.acc 1 ((V.at_ c.href.1 c.href.2.1 + (V.dn w + 1) : Nat) : Int))
  | .lastB => h.mem (h.m.acc 1 ((V.at_ c.href.1 c.href.2.1 + (V.dn w + 2) : Nat) : Int))
  | .over => h
def Pc.isOver : Pc → Bool
  | .over => true
  | _ => false
theorem wRf_inj {V : HV} (hV : V.Ok) {r r' : Rf} (h : r.1 < V.n ∧ r.2.1 < 2 ∧ r.2.2 ≤ V.n) (h' : r'.1 < V.n ∧ r'.2.1 < 2 ∧ r'.2.2 ≤ V.n) (e : wRf r = wRf r') : r = r' := by
  have n1 := hV.n1
  obtain ⟨a1, a2, a3⟩ := get_ref r.1 r.2.1 r.2.2 (by omega) (by omega) (by omega)
  obtain ⟨b1, b2, b3⟩ := get_ref r'.1 r'.2.1 r'.2.2 (by omega) (by omega) (by omega)
  unfold wRf at e
  rw [e] at a1 a2 a3
  obtain ⟨x, y, z⟩ := r
  obtain ⟨x', y', z'⟩ := r'
  simp only at *
  rw [← a1, ← a2, ← a3, b1, b2, b3]
/-- The words of a hall, and what it says of who asked. -/
structure HallIs (V : HV) (h : HH) (M : M3) : Prop where
  m : MemIs V h.m M
  al : h.ask.length = V.n
  a : ∀ i, i < V.n → h.ask.getD i 0 = M.asked i
theorem hS_is {V : HV} {hV : V.Ok} {h : HH} {M : M3} {w : Nat} {c : Cl} (hI : HallIs V h M) (ok : StepOk V M w c) : HallIs V (hS V w c M h) (stepC (V.par hV) w M c).1 := by
  obtain ⟨hm, al, ha⟩ := hI
  have hw := ok.w
  obtain ⟨o1, o2, o3, o4, o5, o6⟩ := ok
  obtain ⟨pc, op0, left, helped, href, cp, who, phase, wA, done, used, pos, tag, laid, ans⟩ := c
  cases pc <;> simp only [hS, stepC] at o6 ⊢
  · exact ⟨hm.acc .., al, ha⟩
  · exact ⟨hm.putHeld _ hw (some href), al, ha⟩
  · split <;> exact ⟨hm.acc .., al, ha⟩
  · exact ⟨hm.acc .., al, ha⟩
  · split
    · split <;> exact ⟨hm.acc .., al, ha⟩
    · exact ⟨hm.acc .., al, ha⟩
  · split <;> exact ⟨hm.acc .., al, ha⟩
  · exact ⟨hm.acc .., al, ha⟩
  · exact ⟨hm.acc .., al, ha⟩
  · exact ⟨hm.acc .., al, ha⟩
  · exact ⟨hm.putRc _ hw (sideC_lt _ _) o6.2 (o3 _ _ hw (sideC_lt _ _)) _, al, ha⟩
  · split
    · exact ⟨hm.putHead _ _, al, ha⟩
    · exact ⟨hm.acc .., al, ha⟩
  · exact ⟨hm.putOa _ hw _, al, ha⟩
  · exact ⟨hm.putOb _ hw _, al, ha⟩
  · refine ⟨hm.putAsked _ hw _, by simpa using al, fun i hi => ?_⟩
    show (h.ask.set w _).getD i 0 = updF M.asked w _ i
    by_cases e : i = w
    · subst e; rw [updF_self, Y.getD_set_self (by omega)]; rfl
    · rw [updF_ne _ _ e, Y.getD_set_other (fun hh => e hh.symm)]; exact ha i hi
  · exact ⟨hm.acc .., al, ha⟩
  · exact ⟨hm.acc .., al, ha⟩
  · exact ⟨hm.acc .., al, ha⟩
  · exact ⟨hm, al, ha⟩
end Go.Proofs.YtnheodgffackoaaDoor.E

/- Package hall: Step, by the plain machine. -/
namespace Go.Proofs.YtnheodgffackoaaDoor.E
set_option linter.unusedSimpArgs false
set_option linter.unusedVariables false
open Go Go.Proofs.YtnheodgffackoaaDoor.Y
set_option maxRecDepth 100000
set_option maxHeartbeats 4000000
theorem lft_over (V : HV) (h : HH) (w st : Nat) (c : Cl) {u : Value} {ms : List BMem} {i T : Nat} (hi : ms[i]? = some (u, callOs V w st { c with pc := .over })) : Tri En 14 [.raw u] (hlBox V T ms h) (.bl true) (hlClosed V T (ms.set i (u, callOs V w st { c with pc := .over })) h) := by
  have t : Tri En 14 [.ptr 9 0 0] ((.gone :: hlO V h) ++ .box T [1, 2] (BoxP (ms.set i (u, []))) :: [clN 1 .nilfunc w st c fBase]) (.bl true) ((.gone :: hlO V h) ++ .box T [1, 2] (BoxP (ms.set i (u, []))) :: [clN 1 .nilfunc w st c fBase]) := by
    obtain ⟨b, n, t0, o⟩ := V
    cases o
    all_goals
      refine Tri.of Tryd.func14 rfl Tryd.call14 rfl ?_
      refine Goods.fin 2000 [] mixed Tryd.func14 ?_
      show Yes _
      repeat' apply And.intro
      (all_goals first | rfl | assumption | trivial | omega | (simp [-List.getD_eq_getElem?_getD] <;> omega) | (simp (disch := omega) only [w64, wu64] <;> omega) | (simp (disch := omega) [-List.getD_eq_getElem?_getD, List.getD_cons_zero, List.getD_cons_succ, kCast_self, dfl_pair, dfl_int, w64, wu64] <;> omega) | (rw [Bool.eq_iff_iff]; simp (disch := omega) [-List.getD_eq_getElem?_getD, List.getD_cons_zero, List.getD_cons_succ, kCast_self, dfl_pair, dfl_int, w64, wu64] <;> omega) | (simp_all [-List.getD_eq_getElem?_getD] <;> omega))
  obtain ⟨b, n, t0, o⟩ := V
  cases o
  all_goals
    refine step_lift hi (bl_any _) t rfl ?_
    show Yes _
    repeat' apply And.intro
    (all_goals first | rfl | assumption | trivial | omega | (simp [-List.getD_eq_getElem?_getD] <;> omega) | (simp (disch := omega) only [w64, wu64] <;> omega) | (simp (disch := omega) [-List.getD_eq_getElem?_getD, List.getD_cons_zero, List.getD_cons_succ, kCast_self, dfl_pair, dfl_int, w64, wu64] <;> omega) | (rw [Bool.eq_iff_iff]; simp (disch := omega) [-List.getD_eq_getElem?_getD, List.getD_cons_zero, List.getD_cons_succ, kCast_self, dfl_pair, dfl_int, w64, wu64] <;> omega) | (simp_all [-List.getD_eq_getElem?_getD] <;> omega))
/-- How many steps a call took, behind one more. -/
def stOf (st : Nat) (c : Cl) : Nat := match c.pc with
  | .over => st
  | _ => st + 1
/-- Is it over? -/
def ovr (c : Cl) : Bool := Pc.isOver c.pc
theorem failC_ovr (c : Cl) : ovr (failC c) = false := by
  rcases failC_cases c with ⟨e, _⟩ | ⟨e, _⟩ | ⟨e, _⟩ <;> rw [e] <;> rfl
theorem ite_ovr {p : Prop} [Decidable p] {a b : Pc} (ha : Pc.isOver a = false) (hb : Pc.isOver b = false) : Pc.isOver (if p then a else b) = false := by
  split
  · exact ha
  · exact hb
theorem turn_ovr (P : Par) (w : Nat) (c : Cl) : ovr (turnC P w c) = false := by
  unfold ovr turnC
  by_cases h1 : c.who + 1 < P.n
  · rw [if_pos h1]; rfl
  · rw [if_neg h1]; rfl
theorem step_all {V : HV} {hV : V.Ok} {h : HH} {M : M3} {w st : Nat} {c : Cl} (hI : HallIs V h M) (ok : StepOk V M w c) (he : h.es.length ≤ 100000000) (hst : st ≤ 1000000000) {u : Value} {ms : List BMem} {i T : Nat} (hi : ms[i]? = some (u, callOs V w st c)) :
    Tri En 14 [.raw u] (hlBox V T ms h) (.bl (ovr (stepC (V.par hV) w M c).2.1)) (hlClosed V T (ms.set i (u, callOs V w (stOf st c) (stepC (V.par hV) w M c).2.1)) (hS V w c M h)) := by
  obtain ⟨hm, al, ha⟩ := hI
  have hw := ok.w
  have n1 := hV.n1
  obtain ⟨o1, o2, o3, o4, o5, o6⟩ := ok
  have hd := hm.head
  cases hp : c.pc
  case load =>
    have ec : c = { c with pc := .load } := by rw [← hp]
    have hi : ms[i]? = some (u, callOs V w st { c with pc := .load }) := hi.trans (by rw [← ec])
    rw [hp] at o6
    simp only at o6
    simp only [stepC, hS, stOf, hp]
    have o5 := o5 (by rw [hp]; intro e; cases e)
    exact lft_load V hV h w st _ M.head hd hst hi
  case hold =>
    have ec : c = { c with pc := .hold } := by rw [← hp]
    have hi : ms[i]? = some (u, callOs V w st { c with pc := .hold }) := hi.trans (by rw [← ec])
    rw [hp] at o6
    simp only at o6
    simp only [stepC, hS, stOf, hp]
    have o5 := o5 (by rw [hp]; intro e; cases e)
    have t := lft_hold (T := T) V hV h w st hw _ hst hi
    rw [show ((V.b : Int) + 1 + w) = ((V.b + 1 + w : Nat) : Int) by omega] at t
    exact t
  case check =>
    have ec : c = { c with pc := .check } := by rw [← hp]
    have hi : ms[i]? = some (u, callOs V w st { c with pc := .check }) := hi.trans (by rw [← ec])
    rw [hp] at o6
    simp only at o6
    simp only [stepC, hS, stOf, hp]
    have o5 := o5 (by rw [hp]; intro e; cases e)
    by_cases e : M.head = c.href
    · rw [if_pos e]
      exact lft_check V hV h w st _ o6.1 (by rw [hd, e]) hst hi
    · rw [if_neg e]
      show Tri _ _ _ _ (.bl (ovr (failC _))) _
      rw [failC_ovr]
      exact lft_check_no V hV h w st _ o6.2.1 o5 (wRf M.head) hd (fun e2 => e (wRf_inj hV o2 o6.1 e2)) hst hi
  case copying =>
    have ec : c = { c with pc := .copying } := by rw [← hp]
    have hi : ms[i]? = some (u, callOs V w st { c with pc := .copying }) := hi.trans (by rw [← ec])
    rw [hp] at o6
    simp only at o6
    simp only [stepC, hS, stOf, hp]
    have o5 := o5 (by rw [hp]; intro e; cases e)
    have e2 : Pc.isOver (if c.cp.length + 1 = (V.par hV).R then Pc.recheck else Pc.copying) = false := ite_ovr rfl rfl
    show Tri _ _ _ _ (.bl (Pc.isOver (if c.cp.length + 1 = (V.par hV).R then Pc.recheck else Pc.copying))) _
    rw [e2]
    have hx := hm.rc c.href.1 c.href.2.1 c.cp.length o6.1.1 o6.1.2 o6.2
    rw [show ((V.at_ c.href.1 c.href.2.1 + c.cp.length : Nat) : Int) = (V.at_ c.href.1 c.href.2.1 : Int) + c.cp.length by omega] at hx
    have t := lft_copying (T := T) V hV h w st _ o6.1 o6.2 _ hx hst hi
    rw [show (V.at_ c.href.1 c.href.2.1 : Int) + c.cp.length = ((V.at_ c.href.1 c.href.2.1 + c.cp.length : Nat) : Int) by omega] at t
    exact t
  case recheck =>
    have ec : c = { c with pc := .recheck } := by rw [← hp]
    have hi : ms[i]? = some (u, callOs V w st { c with pc := .recheck }) := hi.trans (by rw [← ec])
    rw [hp] at o6
    simp only at o6
    simp only [stepC, hS, stOf, hp]
    have o5 := o5 (by rw [hp]; intro e; cases e)
    by_cases e : M.head = c.href
    · rw [if_pos e]
      by_cases e2 : c.helped = true ∧ c.cp.getD ((V.par hV).dn w) 0 = M.asked w
      · rw [if_pos e2]
        exact lft_recheck_told V hV h w st hw al _ o6.2.2 (by rw [hd, e]) e2.1 (by rw [ha w hw]; exact e2.2) hst hi
      · rw [if_neg e2]
        exact lft_recheck V hV h w st hw al _ o6.2.2 (by rw [hd, e]) (by rw [ha w hw]; exact e2) hst hi
    · rw [if_neg e]
      show Tri _ _ _ _ (.bl (ovr (failC _))) _
      rw [failC_ovr]
      exact lft_recheck_no V hV h w st _ o6.2.1 o5 (wRf M.head) hd (fun e2 => e (wRf_inj hV o2 o6.1 e2)) hst hi
  case ask =>
    have ec : c = { c with pc := .ask } := by rw [← hp]
    have hi : ms[i]? = some (u, callOs V w st { c with pc := .ask }) := hi.trans (by rw [← ec])
    rw [hp] at o6
    simp only at o6
    simp only [stepC, hS, stOf, hp]
    have o5 := o5 (by rw [hp]; intro e; cases e)
    obtain ⟨a1, a2, a3, a4⟩ := o6
    have hx := hm.asked c.who a1
    by_cases e : M.asked c.who = c.cp.getD ((V.par hV).dn c.who) 0
    · rw [if_pos e]
      show Tri _ _ _ _ (.bl (ovr (turnC _ _ _))) _
      rw [turn_ovr]
      unfold turnC
      by_cases e1 : c.who + 1 < V.n
      · rw [if_pos (show c.who + 1 < (V.par hV).n from e1)]
        exact lft_ask_next V hV h w st _ a1 a2 _ hx e e1 hst hi
      · rw [if_neg (show ¬ c.who + 1 < (V.par hV).n from e1)]
        by_cases e3 : c.helped = true
        · have t := lft_ask_helped (T := T) V hV h w st _ a1 a2 _ hx e e1 e3 hst hi
          simp only [ownC, if_pos e3]
          exact t
        · have t := lft_ask_own (T := T) V hV h w st _ a1 a2 _ hx e e1 (by simpa using e3) a3 (by omega) hst hi
          simp only [ownC, if_neg e3]
          exact t
    · rw [if_neg e]
      exact lft_ask V hV h w st _ a1 a2 _ hx e hst hi
  case askA =>
    have ec : c = { c with pc := .askA } := by rw [← hp]
    have hi : ms[i]? = some (u, callOs V w st { c with pc := .askA }) := hi.trans (by rw [← ec])
    rw [hp] at o6
    simp only at o6
    simp only [stepC, hS, stOf, hp]
    have o5 := o5 (by rw [hp]; intro e; cases e)
    exact lft_askA V hV h w st _ o6 _ (hm.oa c.who o6) hst hi
  case askB =>
    have ec : c = { c with pc := .askB } := by rw [← hp]
    have hi : ms[i]? = some (u, callOs V w st { c with pc := .askB }) := hi.trans (by rw [← ec])
    rw [hp] at o6
    simp only at o6
    simp only [stepC, hS, stOf, hp]
    have o5 := o5 (by rw [hp]; intro e; cases e)
    obtain ⟨a1, a2, a3, a4⟩ := o6
    have hx := hm.ob c.who a1
    show Tri _ _ _ _ (.bl (ovr (turnC _ _ _))) _
    rw [turn_ovr]
    unfold turnC
    by_cases e1 : c.who + 1 < V.n
    · rw [if_pos (show c.who + 1 < (V.par hV).n from e1)]
      exact lft_askB_next V hV h w st _ a1 a2 a3 a4 _ hx e1 hst hi
    · rw [if_neg (show ¬ c.who + 1 < (V.par hV).n from e1)]
      by_cases e3 : c.helped = true
      · have t := lft_askB_helped (T := T) V hV h w st _ a1 a2 a3 a4 _ hx e1 e3 hst hi
        simp only [ownC, if_pos e3]
        exact t
      · have t := lft_askB_own (T := T) V hV h w st _ a1 a2 a3 a4 _ hx e1 (by simpa using e3) hst hi
        simp only [ownC, if_neg e3]
        exact t
  case scanning =>
    have ec : c = { c with pc := .scanning } := by rw [← hp]
    have hi : ms[i]? = some (u, callOs V w st { c with pc := .scanning }) := hi.trans (by rw [← ec])
    rw [hp] at o6
    simp only at o6
    simp only [stepC, hS, stOf, hp]
    have o5 := o5 (by rw [hp]; intro e; cases e)
    obtain ⟨a1, a2, a3⟩ := o6
    have hx := hm.held c.pos a1
    have hr : ∀ x, M.held c.pos = some x → x.1 < 256 ∧ x.2.1 < 256 ∧ x.2.2 < 4294967296 := fun x hx => by
      have := o4 c.pos x a1 hx
      exact ⟨by omega, by omega, by omega⟩
    have e2 : Pc.isOver (if c.pos + 1 = (V.par hV).n then Pc.laying else Pc.scanning) = false := ite_ovr rfl rfl
    show Tri _ _ _ _ (.bl (Pc.isOver (if c.pos + 1 = (V.par hV).n then Pc.laying else Pc.scanning))) _
    rw [e2]
    by_cases e : c.pos + 1 = V.n
    · rw [if_pos (show c.pos + 1 = (V.par hV).n from e)]
      exact lft_scanned V hV h w st hw _ a1 e a2 _ hr hx _ rfl a3 hst hi
    · rw [if_neg (show ¬ c.pos + 1 = (V.par hV).n from e)]
      exact lft_scanning V hV h w st _ a1 e a2 _ hr hx _ rfl hst hi
  case laying =>
    have ec : c = { c with pc := .laying } := by rw [← hp]
    have hi : ms[i]? = some (u, callOs V w st { c with pc := .laying }) := hi.trans (by rw [← ec])
    rw [hp] at o6
    simp only at o6
    simp only [stepC, hS, stOf, hp]
    have o5 := o5 (by rw [hp]; intro e; cases e)
    have e2 : Pc.isOver (if c.laid + 1 = (V.par hV).R then Pc.swing else Pc.laying) = false := ite_ovr rfl rfl
    show Tri _ _ _ _ (.bl (Pc.isOver (if c.laid + 1 = (V.par hV).R then Pc.swing else Pc.laying))) _
    rw [e2]
    have hs := sideC_lt w c.href
    have hA := hV.at_le (w := w) (s := sideC w c.href) (by omega) (by omega)
    exact lft_laying V hV h w st _ o6.1 o6.2 (by omega) hst hi
  case swing =>
    have ec : c = { c with pc := .swing } := by rw [← hp]
    have hi : ms[i]? = some (u, callOs V w st { c with pc := .swing }) := hi.trans (by rw [← ec])
    rw [hp] at o6
    simp only at o6
    simp only [stepC, hS, stOf, hp]
    have o5 := o5 (by rw [hp]; intro e; cases e)
    obtain ⟨a1, a2, a3⟩ := o6
    obtain ⟨b1, b2, b3⟩ := (by simpa using a3 : c.cp.length = V.R ∧ c.done.length ≤ 1000 ∧ c.tag ≤ V.n)
    have hin : h.m.inr V.b := ⟨by omega, by have := hm.len; have := size_ge V; omega⟩
    by_cases e : M.head = c.href
    · rw [if_pos e, if_pos e]
      exact lft_swing V hV h w st hw _ b1 b2 he hin (by rw [hd, e]) b3 hst hi
    · rw [if_neg e, if_neg e]
      show Tri _ _ _ _ (.bl (ovr (failC _))) _
      rw [failC_ovr]
      exact lft_swing_no V hV h w st hw _ a2 o5 hin (by rw [hd]; intro e2; exact e (wRf_inj hV o2 a1 (by exact_mod_cast e2))) b3 hst hi
  case tellA =>
    have ec : c = { c with pc := .tellA } := by rw [← hp]
    have hi : ms[i]? = some (u, callOs V w st { c with pc := .tellA }) := hi.trans (by rw [← ec])
    rw [hp] at o6
    simp only at o6
    simp only [stepC, hS, stOf, hp]
    have o5 := o5 (by rw [hp]; intro e; cases e)
    exact lft_tellA V hV h w st hw _ hst hi
  case tellB =>
    have ec : c = { c with pc := .tellB } := by rw [← hp]
    have hi : ms[i]? = some (u, callOs V w st { c with pc := .tellB }) := hi.trans (by rw [← ec])
    rw [hp] at o6
    simp only at o6
    simp only [stepC, hS, stOf, hp]
    have o5 := o5 (by rw [hp]; intro e; cases e)
    exact lft_tellB V hV h w st hw _ hst hi
  case tell =>
    have ec : c = { c with pc := .tell } := by rw [← hp]
    have hi : ms[i]? = some (u, callOs V w st { c with pc := .tell }) := hi.trans (by rw [← ec])
    rw [hp] at o6
    simp only at o6
    simp only [stepC, hS, stOf, hp]
    have o5 := o5 (by rw [hp]; intro e; cases e)
    exact lft_tell V hV h w st hw al _ _ (by rw [ha w hw]) hst hi
  case last =>
    have ec : c = { c with pc := .last } := by rw [← hp]
    have hi : ms[i]? = some (u, callOs V w st { c with pc := .last }) := hi.trans (by rw [← ec])
    rw [hp] at o6
    simp only at o6
    simp only [stepC, hS, stOf, hp]
    have o5 := o5 (by rw [hp]; intro e; cases e)
    exact lft_last V hV h w st _ M.head o2 hd hst hi
  case lastA =>
    have ec : c = { c with pc := .lastA } := by rw [← hp]
    have hi : ms[i]? = some (u, callOs V w st { c with pc := .lastA }) := hi.trans (by rw [← ec])
    rw [hp] at o6
    simp only at o6
    simp only [stepC, hS, stOf, hp]
    have o5 := o5 (by rw [hp]; intro e; cases e)
    have hx := hm.rc c.href.1 c.href.2.1 (V.dn w + 1) o6.1 o6.2 (by have := HV.dn_le hV hw; omega)
    exact lft_lastA V hV h w st hw _ o6 _ hx hst hi
  case lastB =>
    have ec : c = { c with pc := .lastB } := by rw [← hp]
    have hi : ms[i]? = some (u, callOs V w st { c with pc := .lastB }) := hi.trans (by rw [← ec])
    rw [hp] at o6
    simp only at o6
    simp only [stepC, hS, stOf, hp]
    have o5 := o5 (by rw [hp]; intro e; cases e)
    have hx := hm.rc c.href.1 c.href.2.1 (V.dn w + 2) o6.1 o6.2 (HV.dn_le hV hw)
    exact lft_lastB V hV h w st hw _ o6 _ hx hst hi
  case over =>
    have ec : c = { c with pc := .over } := by rw [← hp]
    have hi : ms[i]? = some (u, callOs V w st { c with pc := .over }) := hi.trans (by rw [← ec])
    rw [hp] at o6
    simp only at o6
    simp only [stepC, hS, stOf, hp]
    rw [show ovr c = true by unfold ovr; rw [hp]; rfl]
    have t := lft_over (T := T) V h w st c hi
    rw [← ec] at t
    exact t
end Go.Proofs.YtnheodgffackoaaDoor.E
