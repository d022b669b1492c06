/- Several texts in one. -/
import Derived.Test.YtnheodgffackoaaDoorLhuv
import Derived.Test.YtnheodgffackoaaDoorLhs
import Derived.Test.YtnheodgffackoaaDoorEr
/- HallSums: the step within the loop. -/
namespace Go.Proofs.YtnheodgffackoaaDoor.E
set_option linter.unusedSimpArgs false
set_option linter.unusedVariables false
open Go Go.Proofs.YtnheodgffackoaaDoor.Y
set_option maxRecDepth 100000
set_option maxHeartbeats 4000000
noncomputable abbrev gSu (add picks : List Int) : Frm := ⟨En, 3, Tryd.f3.ntmps, [.tab false (.int .u8) add, .tab false (.int .u8) picks], .bl true, gones 2⟩
abbrev suO (V : HV) (ms : List BMem) (h : HH) (add picks : List Int) (cvs : List Value) (clk : Nat) (pcs : List UU) : List AObj := [.tab false (.int .u8) add, .tab false (.int .u8) picks, .box 0 [3, 4] (BoxP ms), hlC 4 9 6 7 8 V h.es.length, memC 5 h.m, memT h.m, .tab true (.int .u64) h.ask, .tab true .raw h.us, .tab true EntK h.es, obO V.o, .tab true .raw cvs, .map (.int .u64) (.int .u64) clk pcs]
abbrev suT (a p n nx : Nat) (all : Int) (i : Nat) : Tm := [(5, .slice 0 0 a), (6, .slice 1 0 p), (7, .int .i64 n), (9, .ptr 3 0 0), (10, .slice 10 0 n), (11, .int .i64 nx), (12, .int .u64 all), (13, .map 11), (14, .int .i64 i)]
abbrev suW (a p n nx : Nat) (all : Int) (i w : Nat) : Tm := [(5, .slice 0 0 a), (6, .slice 1 0 p), (7, .int .i64 n), (9, .ptr 3 0 0), (10, .slice 10 0 n), (11, .int .i64 nx), (12, .int .u64 all), (13, .map 11), (14, .int .i64 i), (15, .int .i64 w)]
section
variable {V : HV} {hV : V.Ok} {add picks : List Int} {it nx : Nat} {h : HH} {L : List LE} {cur : Nat → Option Nat} {S : Y.St} {cvs : List Value} {pcs : List UU} {clk : Nat}
theorem su_24 (ho : V.o = .counter) (ha : addOk add) (hpl : picks.length ≤ 3000) (s : SI V hV add it nx h L cur S cvs pcs clk) {j : Nat} {e : LE} (he : L[j]? = some e) (hpc : e.c.pc ≠ .over) (i : Nat) (hi : i ≤ 100000) (hit : it ≤ i)
    (next : ∀ (h' : HH) (S' : Y.St) (cvs' : List Value) (pcs' : List UU) (clk' : Nat), SI V hV add (it + 1) nx h' (L.set j (stepE V hV S.M e)) cur S' cvs' pcs' clk' → Goods (gSu add picks) ⟨.none, lp Tryd.f3 0, suT add.length picks.length V.n nx (allN add nx) (i + 1), hp (suO V (msOf V (L.set j (stepE V hV S.M e))) h' add picks cvs' clk' pcs')⟩) :
    Goods (gSu add picks) ⟨.none, rg Tryd.f3 24, suW add.length picks.length V.n nx (allN add nx) i e.w, hp (suO V (msOf V L) h add picks cvs clk pcs)⟩ := by
  obtain ⟨hw, hc⟩ := s.at_ he hpc
  have n1 := hV.n1
  have hjl := (List.getElem?_eq_some_iff.1 he).1
  have hem := List.mem_of_getElem? he
  have t := hstep_tri s.rep hw hc he (by have := s.st e hem; omega) (by have := s.es; omega) 0
  have hcv := s.cva j e he hpc
  have hcl := s.cvl
  have hcg : ∀ d, cvs.getD e.w d = e.u := fun d => by simp only [List.getD]; rw [hcv]; rfl
  obtain ⟨_, hpu, hnu⟩ := s.rep.bnd e hem
  by_cases hn : (stepE V hV S.M e).c.pc = .over
  · obtain ⟨⟨a1, a2⟩, s2⟩ := s.ends ho ha he hpc hn _ rfl
    have ih := next _ _ _ _ _ s2
    have hov : ovr (stepE V hV S.M e).c = true := by unfold ovr; rw [hn]; rfl
    rw [hov] at t
    have hg : (L.set j (stepE V hV S.M e))[j]? = some (stepE V hV S.M e) := List.getElem?_set_self hjl
    have h2 := call_answer (V := V) (h := hS V e.w e.c S.M h) (T := 0) (msOf_get hg)
    unfold ansV ansV.ovr2 at h2
    rw [hn] at h2
    obtain ⟨⟨p, q⟩, hpq⟩ : ∃ a, (stepE V hV S.M e).c.ans = a := ⟨_, rfl⟩
    rw [hpq] at h2 a1 a2 ih
    have hu : (stepE V hV S.M e).u = e.u := rfl
    rw [hu] at h2
    simp only [if_true, opA] at h2
    generalize msOf V (L.set j (stepE V hV S.M e)) = ms2 at *
    generalize msOf V L = ms at *
    generalize hS V e.w e.c S.M h = H2 at *
    generalize allN add nx = al at *
    generalize e.u = u at *
    generalize e.w = w at *
    have hcl2 : w < cvs.length := by omega
    have hpq2 : decide (q ≤ p) = false := decide_eq_false (by show ¬ q ≤ p; have : p < q := a1; omega)
    have a2' : mget (kk := .int .u64) (vk := .int .u64) p pcs = none := a2
    have hmh : mhas (kk := .int .u64) (vk := .int .u64) p pcs = false := by unfold mhas; rw [a2']; rfl
    have hmc : mclock (kk := .int .u64) (vk := .int .u64) p clk pcs = clk + 1 := by unfold mclock; rw [a2']
    clear next s s2 hu
    obtain ⟨b, n, tt, o⟩ := V
    obtain rfl : o = .counter := ho
    refine Goods.to 2000 [.c (.of t), .c (.of h2), .s 140 (some false) true true, .s 151 (some false) true true, .l, .stop] mixed (ih) (by kernel_rfl) ?_
    show Yes _
    repeat' apply And.intro
    (all_goals first | rfl | assumption | trivial | omega | (simp [-List.getD_eq_getElem?_getD, hcg, a2', hmh, hmc] <;> omega) | (simp (disch := omega) only [w64, wu64] <;> omega) | (simp (disch := omega) [-List.getD_eq_getElem?_getD, List.getD_cons_zero, List.getD_cons_succ, kCast_self, dfl_pair, dfl_int, w64, wu64, hcg, a2', hmh, hmc] <;> omega) | (rw [Bool.eq_iff_iff]; simp (disch := omega) [-List.getD_eq_getElem?_getD, List.getD_cons_zero, List.getD_cons_succ, kCast_self, dfl_pair, dfl_int, w64, wu64, hcg, a2', hmh, hmc] <;> omega) | (simp_all [-List.getD_eq_getElem?_getD] <;> omega))
  · have ih := next _ _ _ _ _ (s.step he hpc hn)
    have hov : ovr (stepE V hV S.M e).c = false := by unfold ovr; cases hq : (stepE V hV S.M e).c.pc <;> first | rfl | exact absurd hq hn
    rw [hov] at t
    generalize msOf V (L.set j (stepE V hV S.M e)) = ms2 at *
    generalize msOf V L = ms at *
    generalize hS V e.w e.c S.M h = H2 at *
    generalize allN add nx = al at *
    generalize e.u = u at *
    generalize e.w = w at *
    have hcl2 : w < cvs.length := by omega
    clear next s
    obtain ⟨b, n, tt, o⟩ := V
    obtain rfl : o = .counter := ho
    refine Goods.to 2000 [.c (.of t), .l, .stop] mixed (ih) (by kernel_rfl) ?_
    show Yes _
    repeat' apply And.intro
    (all_goals first | rfl | assumption | trivial | omega | (simp [-List.getD_eq_getElem?_getD, hcg] <;> omega) | (simp (disch := omega) only [w64, wu64] <;> omega) | (simp (disch := omega) [-List.getD_eq_getElem?_getD, List.getD_cons_zero, List.getD_cons_succ, kCast_self, dfl_pair, dfl_int, w64, wu64, hcg] <;> omega) | (rw [Bool.eq_iff_iff]; simp (disch := omega) [-List.getD_eq_getElem?_getD, List.getD_cons_zero, List.getD_cons_succ, kCast_self, dfl_pair, dfl_int, w64, wu64, hcg] <;> omega) | (simp_all [-List.getD_eq_getElem?_getD] <;> omega))
end
end Go.Proofs.YtnheodgffackoaaDoor.E

/- HallSums: a turn of the loop, once it is known who steps. -/
namespace Go.Proofs.YtnheodgffackoaaDoor.E
set_option linter.unusedSimpArgs false
set_option linter.unusedVariables false
open Go Go.Proofs.YtnheodgffackoaaDoor.Y
set_option maxRecDepth 100000
set_option maxHeartbeats 4000000
/-- What came just now is a value from now on: two rows know of it. -/
theorem Goods.name2 {G : Frm} {todo : List Item} {tm : Tm} {os : List AObj} {q j j2 T a b k wk wk2 : Nat} {ms : List BMem} {subs : List AObj} {us1 us2 us3 us4 : List Value} (hq : (hp os).get q = .box T [a, b, k] (BoxN ms subs)) (hj : (hp os).get j = .mix wk (fun x y => x = us1 ∧ y = us2) (.ptr k 0 0)) (hj2 : (hp os).get j2 = .mix wk2 (fun x y => x = us3 ∧ y = us4) (.ptr k 0 0)) (hjj : j ≠ j2)
    (h : ∀ x, isP x = true → nilP x = false → Goods G ⟨.none, todo, nameT k x tm, hp (((os.set j (.tab true .raw (us1 ++ x :: us2))).set j2 (.tab true .raw (us3 ++ x :: us4))).set q (.box T [a, b] (BoxP (ms ++ [(x, subs)]))))⟩) : Goods G ⟨.none, todo, tm, hp os⟩ := by
  have lt_of : ∀ i, (hp os).get i ≠ .gone → i < os.length := fun i hi => by
    apply Classical.byContradiction
    intro hn
    rw [hp_get] at hi
    simp only [List.getD] at hi
    rw [List.getElem?_eq_none (by omega)] at hi
    exact hi rfl
  have hql := lt_of q (by rw [hq]; simp)
  have hjl := lt_of j (by rw [hj]; simp)
  have hjl2 := lt_of j2 (by rw [hj2]; simp)
  have hqj : q ≠ j := by rintro rfl; rw [hq] at hj; cases hj
  have hqj2 : q ≠ j2 := by rintro rfl; rw [hq] at hj2; cases hj2
  have get_ne : ∀ (o : AObj) (os : List AObj) (i i' : Nat), i ≠ i' → (hp (os.set i o)).get i' = (hp os).get i' := fun o os i i' hi => by
    rw [hp_get, hp_get]
    simp only [List.getD]
    rw [List.getElem?_set_ne hi]
  refine Goods.turn2 (Q := fun x => isP x = true ∧ nilP x = false) (tm' := fun x => nameT k x tm) (fun x hx => h x hx.1 hx.2) fun B ρ w hR => ?_
  obtain ⟨x, x1, x2, x3, _, _⟩ := hR.name hq
  obtain ⟨l, l1, l2⟩ := hR.obj j (by rw [hj]; simp)
  rw [hj] at l2
  obtain ⟨us, u, ws, z1, ⟨rfl, rfl⟩, hd, z2, z3, z4, z5⟩ := l2
  obtain rfl := (x3 u).1 hd
  have r1 := hR.as (o := .tab true .raw (us ++ u :: ws)) l1 (by rw [hj]; simp) ⟨z2, z3, z4, z5⟩ (fun hh => by rw [hj]; exact hh)
  obtain ⟨r2, b2⟩ := hp_set hjl r1
  have b1 : ∀ c, Blks ρ ((hp os).set j (.tab true .raw (us ++ u :: ws))) c → Blks ρ (hp os) c := fun c hc => Blks.as l1 (fun hh => by rw [hj]; exact hh) hc
  have hj3 := get_ne (.tab true .raw (us ++ u :: ws)) os j j2 hjj
  rw [hj2] at hj3
  obtain ⟨l', l1', l2'⟩ := r2.obj j2 (by rw [hj3]; simp)
  rw [hj3] at l2'
  obtain ⟨us', u', ws', y1, ⟨rfl, rfl⟩, hd', y2, y3, y4, y5⟩ := l2'
  obtain rfl := (x3 u').1 hd'
  have r3 := r2.as (o := .tab true .raw (us' ++ u' :: ws')) l1' (by rw [hj3]; simp) ⟨y2, y3, y4, y5⟩ (fun hh => by rw [hj3]; exact hh)
  obtain ⟨r4, b4⟩ := hp_set (by rw [List.length_set]; exact hjl2) r3
  have b3 : ∀ c, Blks ρ ((hp (os.set j (.tab true .raw (us ++ u' :: ws)))).set j2 (.tab true .raw (us' ++ u' :: ws'))) c → Blks ρ (hp (os.set j (.tab true .raw (us ++ u' :: ws)))) c := fun c hc => Blks.as l1' (fun hh => by rw [hj3]; exact hh) hc
  have hq2 : (hp ((os.set j (.tab true .raw (us ++ u' :: ws))).set j2 (.tab true .raw (us' ++ u' :: ws')))).get q = .box T [a, b, k] (BoxN ms subs) := by
    rw [get_ne _ _ _ _ (Ne.symm hqj2), get_ne _ _ _ _ (Ne.symm hqj)]; exact hq
  obtain ⟨x', _, _, w3, w4, w5⟩ := r4.name hq2
  have hxx : x' = u' := (x3 x').1 ((w3 x').2 rfl)
  subst hxx
  obtain ⟨r5, b5⟩ := hp_set (by rw [List.length_set, List.length_set]; exact hql) w4
  exact ⟨x', ρ, ⟨x1, x2⟩, r5, fun _ _ h => h, fun c hc => b1 c (b2 c (b3 c (b4 c (w5 c (b5 c hc))))), fun t v hv => look_nameT x3 tm t v hv⟩
abbrev suM (V : HV) (ms : List BMem) (h : HH) (add picks : List Int) (cvs : List Value) (clk : Nat) (pcs : List UU) (w : Nat) (subs : List AObj) : List AObj := [.tab false (.int .u8) add, .tab false (.int .u8) picks, .gone, hlC 4 9 6 7 8 V h.es.length, memC 5 h.m, memT h.m, .tab true (.int .u64) h.ask, .mix w (fun a b => a = h.us.take w ∧ b = h.us.drop (w + 1)) (.ptr 12 0 0), .tab true EntK h.es, obO V.o, .mix w (fun a b => a = cvs.take w ∧ b = cvs.drop (w + 1)) (.ptr 12 0 0), .map (.int .u64) (.int .u64) clk pcs, .gone, .box 0 [3, 4, 12] (BoxN ms subs)]
section
variable {V : HV} {hV : V.Ok} {add picks : List Int} {it nx : Nat} {h : HH} {L : List LE} {cur : Nat → Option Nat} {S : Y.St} {cvs : List Value} {pcs : List UU} {clk : Nat}
/-- What is to come of a turn. -/
def SuNext (V : HV) (hV : V.Ok) (add picks : List Int) (i : Nat) : Prop := ∀ (it nx : Nat) (h : HH) (L : List LE) (cur : Nat → Option Nat) (S : Y.St) (cvs : List Value) (pcs : List UU) (clk : Nat), it ≤ i → SI V hV add it nx h L cur S cvs pcs clk → MI V hV add picks.length i nx L →
  Goods (gSu add picks) ⟨.none, lp Tryd.f3 0, suT add.length picks.length V.n nx (allN add nx) i, hp (suO V (msOf V L) h add picks cvs clk pcs)⟩
theorem su_busy (ho : V.o = .counter) (ha : addOk add) (hpl : picks.length ≤ 3000) (h5 : V.n ≤ 5) (s : SI V hV add it nx h L cur S cvs pcs clk) {i : Nat} (m : MI V hV add picks.length i nx L) (hi : i ≤ 100000) (hit : it ≤ i) {j : Nat} {e : LE} (he : L[j]? = some e) (hpc : e.c.pc ≠ .over) (hwi : picks.length ≤ i → e.w = i % V.n) (next : SuNext V hV add picks (i + 1)) :
    Goods (gSu add picks) ⟨.none, rg Tryd.f3 24, suW add.length picks.length V.n nx (allN add nx) i e.w, hp (suO V (msOf V L) h add picks cvs clk pcs)⟩ :=
  su_24 ho ha hpl s he hpc i hi hit fun h' S' cvs' pcs' clk' s' => next _ _ _ _ _ _ _ _ _ (by omega) s' (m.step s h5 he hpc hwi)
theorem su_22 (ho : V.o = .counter) (ha : addOk add) (hpl : picks.length ≤ 3000) (h5 : V.n ≤ 5) (s : SI V hV add it nx h L cur S cvs pcs clk) {i : Nat} (m : MI V hV add picks.length i nx L) (hi : i ≤ 100000) (hit : it ≤ i) {w : Nat} (hw : w < V.n) (hidle : ∀ (j : Nat) (e : LE), cur w = some j → L[j]? = some e → e.c.pc = .over) (hn : nx < add.length) (hwi : picks.length ≤ i → w = i % V.n) (next : SuNext V hV add picks (i + 1)) :
    Goods (gSu add picks) ⟨.none, rg Tryd.f3 22, suW add.length picks.length V.n (nx + 1) (allN add (nx + 1)) i w, hp (suM V (msOf V L) h add picks cvs clk pcs w (callOs V w 0 (newC V.tries (1 + add.getD nx 0, 0))))⟩ := by
  refine Goods.name2 (q := 13) (j := 7) (j2 := 10) (T := 0) (a := 3) (b := 4) (k := 12) (wk := w) (wk2 := w) (ms := msOf V L) (subs := callOs V w 0 (newC V.tries (1 + add.getD nx 0, 0))) (us1 := h.us.take w) (us2 := h.us.drop (w + 1)) (us3 := cvs.take w) (us4 := cvs.drop (w + 1)) rfl rfl rfl (by omega) fun x x1 x2 => ?_
  have s2 := s.start hw hidle hn x1 x2
  have m2 := m.start (V := V) (hV := hV) hn x w (add.getD nx 0)
  have he : (L ++ [newE V x w (add.getD nx 0)])[L.length]? = some (newE V x w (add.getD nx 0)) := by simp
  have ih := su_busy ho ha hpl h5 s2 m2 hi hit he (newC_pc _ _) hwi next
  have hms : msOf V L ++ [(x, callOs V w 0 (newC V.tries (1 + add.getD nx 0, 0)))] = msOf V (L ++ [newE V x w (add.getD nx 0)]) := msOf_add (e := newE V x w (add.getD nx 0))
  rw [hms]
  have hcl := s.cvl
  have hcs : cvs.take w ++ x :: cvs.drop (w + 1) = cvs.set w x := by
    rw [List.set_eq_take_append_cons_drop, if_pos (by omega)]
  rw [hcs]
  have hcg : ∀ d, (cvs.set w x).getD w d = x := fun d => by simp only [List.getD]; rw [List.getElem?_set_self (by omega)]; rfl
  have hcl2 : w < (cvs.set w x).length := by rw [List.length_set]; omega
  have hcl3 : (cvs.set w x).length = V.n := by rw [List.length_set]; omega
  have ew : (newE V x w (add.getD nx 0)).w = w := rfl
  rw [ew] at ih
  have n1 := hV.n1
  generalize msOf V (L ++ [newE V x w (add.getD nx 0)]) = ms2 at *
  generalize cvs.set w x = cvs2 at *
  generalize allN add (nx + 1) = al at *
  clear s2 m2 s m next hidle hms
  obtain ⟨b, n, tt, o⟩ := V
  obtain rfl : o = .counter := ho
  refine Goods.to 2000 [.s 120 (some false) true true, .upto 24] mixed (ih) (by kernel_rfl) ?_
  show Yes _
  repeat' apply And.intro
  (all_goals first | rfl | assumption | trivial | omega | (simp [-List.getD_eq_getElem?_getD, hcg] <;> omega) | (simp (disch := omega) only [w64, wu64] <;> omega) | (simp (disch := omega) [-List.getD_eq_getElem?_getD, List.getD_cons_zero, List.getD_cons_succ, kCast_self, dfl_pair, dfl_int, w64, wu64, hcg] <;> omega) | (rw [Bool.eq_iff_iff]; simp (disch := omega) [-List.getD_eq_getElem?_getD, List.getD_cons_zero, List.getD_cons_succ, kCast_self, dfl_pair, dfl_int, w64, wu64, hcg] <;> omega) | (simp_all [-List.getD_eq_getElem?_getD] <;> omega))
theorem su_17 (ho : V.o = .counter) (ha : addOk add) (hpl : picks.length ≤ 3000) (h5 : V.n ≤ 5) (s : SI V hV add it nx h L cur S cvs pcs clk) {i : Nat} (m : MI V hV add picks.length i nx L) (hi : i ≤ 100000) (hit : it ≤ i) {w : Nat} (hw : w < V.n) (hwi : picks.length ≤ i → w = i % V.n) (next : SuNext V hV add picks (i + 1)) :
    Goods (gSu add picks) ⟨.none, rg Tryd.f3 17, suW add.length picks.length V.n nx (allN add nx) i w, hp (suO V (msOf V L) h add picks cvs clk pcs)⟩ := by
  have n1 := hV.n1
  have hcl := s.cvl
  have hnl := s.nxl
  have hal := ha.1
  by_cases hidle : ∀ (j : Nat) (e : LE), cur w = some j → L[j]? = some e → e.c.pc = .over
  · have hcv := s.cvn w hw hidle
    by_cases hn : nx < add.length
    · have ih := su_22 ho ha hpl h5 s m hi hit hw hidle hn hwi next
      have t := hcall_tri s.rep hw hidle (1 + add.getD nx 0, 0) 0
      have hsu := allN_succ hn
      have hb1 := allN_le ha nx
      have hb2 := allN_le ha (nx + 1)
      have hge : 0 ≤ add.getD nx 0 ∧ add.getD nx 0 ≤ 255 := ha.2 _ (by simp only [List.getD]; rw [List.getElem?_eq_getElem hn]; exact List.getElem_mem _)
      refine Goods.turn2 (α := Unit) (Q := fun _ => True) (tm' := fun _ => suW add.length picks.length V.n nx (allN add nx) i w) (os' := fun _ => [.tab false (.int .u8) add, .tab false (.int .u8) picks, .box 0 [3, 4] (BoxP (msOf V L)), hlC 4 9 6 7 8 V h.es.length, memC 5 h.m, memT h.m, .tab true (.int .u64) h.ask, .tab true .raw h.us, .tab true EntK h.es, obO V.o] ++ .mix w (fun a b => a = cvs.take w ∧ b = cvs.drop (w + 1)) .nilptr :: [.map (.int .u64) (.int .u64) clk pcs]) (fun _ _ => ?_) fun B ρ wd hR => ?_
      · have hin : nx < add.length := hn
        unfold opA at t
        generalize callOs V w 0 (newC V.tries (1 + add.getD nx 0, 0)) = subs at *
        generalize hal2 : allN add (nx + 1) = al2 at *
        generalize allN add nx = al at *
        obtain ⟨av, hav⟩ : ∃ av, add.getD nx 0 = av := ⟨_, rfl⟩
        rw [hav] at *
        generalize msOf V L = ms at *
        clear s m next hidle
        obtain ⟨b, n, tt, o⟩ := V
        obtain rfl : o = .counter := ho
        refine Goods.to 2000 [.s 96 (some false) true true, .c (.of t), .upto 22] mixed (ih) (by kernel_rfl) ?_
        show Yes _
        repeat' apply And.intro
        (all_goals first | rfl | assumption | trivial | omega | (simp [-List.getD_eq_getElem?_getD, hav] <;> omega) | (simp (disch := omega) only [w64, wu64] <;> omega) | (simp (disch := omega) [-List.getD_eq_getElem?_getD, List.getD_cons_zero, List.getD_cons_succ, kCast_self, dfl_pair, dfl_int, w64, wu64, hav] <;> omega) | (rw [Bool.eq_iff_iff]; simp (disch := omega) [-List.getD_eq_getElem?_getD, List.getD_cons_zero, List.getD_cons_succ, kCast_self, dfl_pair, dfl_int, w64, wu64, hav] <;> omega) | (simp_all [-List.getD_eq_getElem?_getD] <;> omega))
      · obtain ⟨r1, r2⟩ := RelH.callAt (a := [.tab false (.int .u8) add, .tab false (.int .u8) picks, .box 0 [3, 4] (BoxP (msOf V L)), hlC 4 9 6 7 8 V h.es.length, memC 5 h.m, memT h.m, .tab true (.int .u64) h.ask, .tab true .raw h.us, .tab true EntK h.es, obO V.o]) (b := [.map (.int .u64) (.int .u64) clk pcs]) (v := .nilptr) hR hcv rfl
        exact ⟨(), ρ, trivial, r1, fun _ _ h => h, r2, fun _ _ hv => hv⟩
    · have ih := next it nx h L cur S cvs pcs clk (by omega) s (m.rest s h5 (by omega) hidle hwi)
      have hcg : ∀ d, cvs.getD w d = .pointer none := fun d => by simp only [List.getD]; rw [hcv]; rfl
      have hip : ∀ d, isP (cvs.getD w d) = true := fun d => by rw [hcg]; rfl
      have hnp : ∀ d, nilP (cvs.getD w d) = true := fun d => by rw [hcg]; rfl
      have hcl2 : w < cvs.length := by omega
      generalize allN add nx = al at *
      generalize msOf V L = ms at *
      clear s m next hidle
      obtain ⟨b, n, tt, o⟩ := V
      obtain rfl : o = .counter := ho
      refine Goods.to 2000 [.s 92 (some true) true true, .s 96 (some true) true true, .l, .stop] mixed (ih) (by kernel_rfl) ?_
      show Yes _
      repeat' apply And.intro
      (all_goals first | rfl | assumption | trivial | omega | (simp [-List.getD_eq_getElem?_getD, hip, hnp] <;> omega) | (simp (disch := omega) only [w64, wu64] <;> omega) | (simp (disch := omega) [-List.getD_eq_getElem?_getD, List.getD_cons_zero, List.getD_cons_succ, kCast_self, dfl_pair, dfl_int, w64, wu64, hip, hnp] <;> omega) | (rw [Bool.eq_iff_iff]; simp (disch := omega) [-List.getD_eq_getElem?_getD, List.getD_cons_zero, List.getD_cons_succ, kCast_self, dfl_pair, dfl_int, w64, wu64, hip, hnp] <;> omega) | (simp_all [-List.getD_eq_getElem?_getD] <;> omega))
  · have hex : ∃ (j : Nat) (e : LE), cur w = some j ∧ L[j]? = some e ∧ e.c.pc ≠ .over := by
      apply Classical.byContradiction
      intro hno
      refine hidle fun j e h1 h2 => Classical.byContradiction fun h3 => hno ⟨j, e, h1, h2, h3⟩
    obtain ⟨j, e, h1, he, hpc⟩ := hex
    obtain ⟨e', a1, a2, _, _⟩ := s.rep.us w j hw h1
    rw [he] at a1; cases a1
    subst a2
    have hcv := s.cva j e he hpc
    have ih := su_busy ho ha hpl h5 s m hi hit he hpc hwi next
    obtain ⟨_, hpu, hnu⟩ := s.rep.bnd e (List.mem_of_getElem? he)
    have hcg : ∀ d, cvs.getD e.w d = e.u := fun d => by simp only [List.getD]; rw [hcv]; rfl
    have hcl2 : e.w < cvs.length := by omega
    generalize allN add nx = al at *
    generalize msOf V L = ms at *
    generalize e.u = u at *
    generalize e.w = w at *
    clear s m next hidle
    obtain ⟨b, n, tt, o⟩ := V
    obtain rfl : o = .counter := ho
    refine Goods.to 2000 [.s 92 (some false) true true, .upto 24] mixed (ih) (by kernel_rfl) ?_
    show Yes _
    repeat' apply And.intro
    (all_goals first | rfl | assumption | trivial | omega | (simp [-List.getD_eq_getElem?_getD, hcg] <;> omega) | (simp (disch := omega) only [w64, wu64] <;> omega) | (simp (disch := omega) [-List.getD_eq_getElem?_getD, List.getD_cons_zero, List.getD_cons_succ, kCast_self, dfl_pair, dfl_int, w64, wu64, hcg] <;> omega) | (rw [Bool.eq_iff_iff]; simp (disch := omega) [-List.getD_eq_getElem?_getD, List.getD_cons_zero, List.getD_cons_succ, kCast_self, dfl_pair, dfl_int, w64, wu64, hcg] <;> omega) | (simp_all [-List.getD_eq_getElem?_getD] <;> omega))
end
end Go.Proofs.YtnheodgffackoaaDoor.E

/- HallSums: what holds at last; the second loop. -/
namespace Go.Proofs.YtnheodgffackoaaDoor.E
set_option linter.unusedSimpArgs false
set_option linter.unusedVariables false
open Go Go.Proofs.YtnheodgffackoaaDoor.Y
set_option maxRecDepth 100000
set_option maxHeartbeats 4000000
structure SuEnd (V : HV) (hV : V.Ok) (add : List Int) (h : HH) (S : Y.St) (pcs : List UU) (clk : Nat) (f : Nat → Int) : Prop where
  len : h.es.length = add.length
  map : pcs.length = add.length
  mem : MemIs V h.m S.M
  hd : S.M.head.1 < V.n ∧ S.M.head.2.1 < 2 ∧ S.M.head.2.2 ≤ V.n
  cur : ∀ k, k < 1 → (curM S.M).getD k 0 = [allN add add.length].getD k 0
  f0 : f 0 = 0
  fn : f add.length = allN add add.length
  fs : ∀ k, k < add.length → ug (f k) pcs = some (f (k + 1))
  pk : keysOk (k := .u64) (vk := .int .u64) pcs
  pb : bornU clk pcs
section
variable {V : HV} {hV : V.Ok} {add picks : List Int} {it nx : Nat} {h : HH} {L : List LE} {cur : Nat → Option Nat} {S : Y.St} {cvs : List Value} {pcs : List UU} {clk : Nat}
theorem SI.last (s : SI V hV add it nx h L cur S cvs pcs clk) (ho : V.o = .counter) (ha : addOk add) (hnx : nx = add.length) (hov : ∀ e : LE, e ∈ L → e.c.pc = .over) : ∃ f, SuEnd V hV add h S pcs clk f := by
  subst hnx
  have hinv := s.rep.inv
  have hovM : ∀ x, x ∈ L.map lc → x.2.pc = .over := fun x hx => by
    obtain ⟨e, he, rfl⟩ := List.mem_map.1 hx
    exact hov e he
  have hA := cnt_adds hV ho
  have hd1 := ents_op s.log hinv s.ws fun x hx => by
    obtain ⟨e, he, rfl⟩ := List.mem_map.1 hx
    exact s.op_ge ha e he
  have hsum : sumA (S.ents.map (·.2.1)) = allN add add.length := by
    have h1 := s.log.sum_eq hinv s.ws (·.1) hovM
    rw [sumF_L, ← sumA_eq, ← sumA_eq, s.ops] at h1
    exact h1
  have hLl : L.length = add.length := by
    have := congrArg List.length s.ops
    simpa using this
  have hcnt : S.ents.length = add.length := by
    have h1 := s.log.sum_eq hinv s.ws (fun _ => 1) hovM
    rw [sumF_one, sumF_one, List.length_map, List.length_map] at h1
    omega
  have hle := allN_le ha add.length
  obtain ⟨c1, c2⟩ := cnt_all hA hinv (fun d hd => by have := hd1 d hd; omega) (by omega)
  refine ⟨fun k => 0 + sumA ((S.ents.map (·.2.1)).take k), ?_, ?_, s.rep.is.m, hinv.hd, fun k hk => ?_, ?_, ?_, fun k hk => ?_, s.pk, s.pb⟩
  · have := congrArg List.length s.rep.es
    rw [List.length_map, List.length_map] at this
    omega
  · rw [s.pl, List.filter_eq_self.2 fun e he => ovC_iff.2 (hov e he)]; exact hLl
  · obtain rfl : k = 0 := by omega
    rw [hsum] at c1
    cases hm : curM S.M with
    | nil => rw [hm] at c1; cases c1
    | cons a l => rw [hm] at c1; simp at c1; simp [c1]
  · show 0 + sumA (List.take 0 _) = 0
    rw [List.take_zero]; rfl
  · show 0 + sumA (List.take add.length _) = _
    rw [List.take_of_length_le (by rw [List.length_map]; omega), hsum, Int.zero_add]
  · have hc := chain_at (S.ents.map (·.2.1)) 0 k (by rw [List.length_map]; omega)
    rw [← c2, List.getElem?_map] at hc
    cases hd : S.ents[k]? with
    | none => rw [hd] at hc; cases hc
    | some d =>
      rw [hd] at hc
      have hc2 := Option.some.inj hc
      have hmem := List.mem_of_getElem? hd
      have hw := s.ws.ents d hmem
      have hm : d.2 ∈ mineOf S.ents d.1 := by
        rw [mineOf_filter]
        exact List.mem_map.2 ⟨d, List.mem_filter.2 ⟨hmem, by simp⟩, rfl⟩
      have hm2 : d.2 ∈ (oversOf (L.map lc) d.1).map opAns := by
        rcases s.log.mine hinv hw with e | ⟨i, c, a, b1, b2, b3, e⟩
        · rw [e] at hm; exact hm
        · exact absurd (hovM _ (List.mem_of_getElem? b2)) b3
      obtain ⟨x, hx, hx2⟩ := List.mem_map.1 hm2
      obtain ⟨e, he, rfl⟩ := List.mem_map.1 (List.mem_filter.1 hx).1
      refine (s.pg _ _).2 ⟨e, he, hov e he, ?_⟩
      exact (congrArg (·.2) hx2).trans hc2
end
/-- How many births are left. -/
theorem left_one {kk vk : K} {es : List (Ent kk vk)} (hb : (es.map (·.2.2)).Nodup) {seen : List Nat} {b : Nat} (hm : b ∈ es.map (·.2.2)) (hn : b ∉ seen) : (es.filter fun f => decide (f.2.2 ∉ seen ++ [b])).length + 1 = (es.filter fun f => decide (f.2.2 ∉ seen)).length := by
  induction es with
  | nil => cases hm
  | cons g es ih =>
    have h1 : g.2.2 ∉ es.map (·.2.2) ∧ (es.map (·.2.2)).Nodup := List.nodup_cons.1 hb
    rw [List.filter_cons, List.filter_cons]
    by_cases e : g.2.2 = b
    · subst e
      have h2 : es.filter (fun f => decide (f.2.2 ∉ seen ++ [g.2.2])) = es.filter fun f => decide (f.2.2 ∉ seen) := by
        refine List.filter_congr fun f hf => ?_
        have : f.2.2 ≠ g.2.2 := fun h => h1.1 (List.mem_map.2 ⟨f, hf, h⟩)
        simp [this]
      rw [h2, if_neg (by simp), if_pos (by simpa using hn)]
      rfl
    · have hm2 : b ∈ es.map (·.2.2) := by
        rcases List.mem_cons.1 hm with h | h
        · exact absurd h.symm e
        · exact h
      have := ih h1.2 hm2
      by_cases h3 : g.2.2 ∈ seen
      · rw [if_neg (by simp [h3]), if_neg (by simp [h3])]; exact this
      · rw [if_pos (by simp [h3, e]), if_pos (by simp [h3])]
        simp only [List.length_cons]; omega
abbrev suO2 (V : HV) (ms : List BMem) (h : HH) (add picks : List Int) (clk : Nat) (pcs : List UU) : List AObj := [.tab false (.int .u8) add, .tab false (.int .u8) picks, .box 0 [3, 4] (BoxP ms), hlC 4 9 6 7 8 V h.es.length, memC 5 h.m, memT h.m, .tab true (.int .u64) h.ask, .tab true .raw h.us, .tab true EntK h.es, obO V.o, .gone, .map (.int .u64) (.int .u64) clk pcs]
abbrev suT2 (a : Nat) (all at_ : Int) : Tm := [(5, .slice 0 0 a), (9, .ptr 3 0 0), (12, .int .u64 all), (13, .map 11), (21, .int .u64 at_), (162, .ptr 12 0 0)]
section
variable {V : HV} {hV : V.Ok} {add picks : List Int} {h : HH} {S : Y.St} {pcs : List UU} {clk : Nat} {f : Nat → Int} {ms : List BMem}
theorem su_fin (ho : V.o = .counter) (ha : addOk add) (s : SuEnd V hV add h S pcs clk f) {seen : List Nat} (hall : ∀ e ∈ pcs, e.2.2 ∈ seen) :
    Goods (gSu add picks) ⟨.none, lp Tryd.f3 1, suT2 add.length (allN add add.length) (allN add add.length), hp (suO2 V ms h add picks clk pcs ++ [.iter 11 clk seen])⟩ := by
  have al1 := ha.1
  have hs := hall_state' V hV h _ s.mem s.hd [allN add add.length] (by rw [ho]; rfl) (by rw [ho]; exact s.cur)
  have hc := hall_count V h
  rw [s.len] at hc
  have e1 : ∀ e ∈ pcs, e.2.2 < clk := s.pb.2
  have hml := s.map
  have hel := s.len
  generalize allN add add.length = al at *
  have how : (0 : Int) < ((obW V.o : Nat) : Int) := by rw [ho]; decide
  clear s
  obtain ⟨b, n, tt, o⟩ := V
  obtain rfl : o = .counter := ho
  refine Goods.fin 2000 [.s 163 none false true, .c (.of hs), .s 173 (some true) true true, .s 179 (some true) true true, .s 184 (some true) true true, .s 191 (some true) true true, .k 195 (.of hc), .s 198 (some true) true true] mixed Tryd.func3 ?_
  show Yes _
  repeat' apply And.intro
  (all_goals first | rfl | assumption | trivial | omega | (simp [-List.getD_eq_getElem?_getD] <;> omega) | (simp (disch := omega) only [w64, wu64] <;> omega) | (simp (disch := omega) [-List.getD_eq_getElem?_getD, List.getD_cons_zero, List.getD_cons_succ, kCast_self, dfl_pair, dfl_int, w64, wu64] <;> omega) | (rw [Bool.eq_iff_iff]; simp (disch := omega) [-List.getD_eq_getElem?_getD, List.getD_cons_zero, List.getD_cons_succ, kCast_self, dfl_pair, dfl_int, w64, wu64] <;> omega) | (simp_all [-List.getD_eq_getElem?_getD] <;> omega))
theorem su_1 (ho : V.o = .counter) (ha : addOk add) (s : SuEnd V hV add h S pcs clk f) : ∀ (j : Nat) (seen : List Nat) (k : Nat), (pcs.filter fun f => decide (f.2.2 ∉ seen)).length = j → k + j = add.length →
    Goods (gSu add picks) ⟨.none, lp Tryd.f3 1, suT2 add.length (allN add add.length) (f k), hp (suO2 V ms h add picks clk pcs ++ [.iter 11 clk seen])⟩
  | 0, seen, k, hj, hk => by
    have hall : ∀ e ∈ pcs, e.2.2 ∈ seen := by
      intro e he
      apply Classical.byContradiction; intro hn
      have : e ∈ pcs.filter fun f => decide (f.2.2 ∉ seen) := List.mem_filter.2 ⟨he, by simpa using hn⟩
      rw [List.eq_nil_of_length_eq_zero hj] at this
      cases this
    obtain rfl : k = add.length := by omega
    rw [s.fn]
    exact su_fin ho ha s hall
  | j + 1, seen, k, hj, hk => by
    have hex : ∃ e ∈ pcs, e.2.2 ∉ seen := by
      cases hc : pcs.filter (fun f => decide (f.2.2 ∉ seen)) with
      | nil => rw [hc] at hj; cases hj
      | cons e l =>
        have : e ∈ pcs.filter fun f => decide (f.2.2 ∉ seen) := by rw [hc]; simp
        obtain ⟨h1, h2⟩ := List.mem_filter.1 this
        exact ⟨e, h1, by simpa using h2⟩
    have e1 : ∀ e ∈ pcs, e.2.2 < clk := s.pb.2
    have hg := s.fs k (by omega)
    have ih : Goods (gSu add picks) ⟨.none, rg Tryd.f3 34, suT2 add.length (allN add add.length) (f k), hp (suO2 V ms h add picks clk pcs ++ .iterX 11 clk seen (pcs.map (·.2.2)) :: [])⟩ := by
      refine Goods.pick fun b hb1 hb2 => ?_
      have hlo := left_one s.pb.1 hb1 hb2
      have ih := su_1 ho ha s j (seen ++ [b]) (k + 1) (Nat.succ.inj (hlo.trans hj)) (by omega)
      have hg2 : mget (kk := .int .u64) (vk := .int .u64) (f k) pcs = some (f (k + 1)) := hg
      generalize f (k + 1) = y at *
      generalize f k = x at *
      generalize allN add add.length = al at *
      generalize seen ++ [b] = sn at *
      clear s hex
      obtain ⟨b, n, tt, o⟩ := V
      obtain rfl : o = .counter := ho
      refine Goods.to 2000 [.l, .stop] mixed (ih) (by kernel_rfl) ?_
      show Yes _
      repeat' apply And.intro
      (all_goals first | rfl | assumption | trivial | omega | (simp [-List.getD_eq_getElem?_getD, hg2] <;> omega) | (simp (disch := omega) only [w64, wu64] <;> omega) | (simp (disch := omega) [-List.getD_eq_getElem?_getD, List.getD_cons_zero, List.getD_cons_succ, kCast_self, dfl_pair, dfl_int, w64, wu64, hg2] <;> omega) | (rw [Bool.eq_iff_iff]; simp (disch := omega) [-List.getD_eq_getElem?_getD, List.getD_cons_zero, List.getD_cons_succ, kCast_self, dfl_pair, dfl_int, w64, wu64, hg2] <;> omega) | (simp_all [-List.getD_eq_getElem?_getD] <;> omega))
    generalize allN add add.length = al at *
    generalize f k = x at *
    clear s
    obtain ⟨b, n, tt, o⟩ := V
    obtain rfl : o = .counter := ho
    refine Goods.to 2000 [.s 163 none true true, .upto 34] mixed (ih) (by kernel_rfl) ?_
    show Yes _
    repeat' apply And.intro
    (all_goals first | rfl | assumption | trivial | omega | (simp [-List.getD_eq_getElem?_getD] <;> omega) | (simp (disch := omega) only [w64, wu64] <;> omega) | (simp (disch := omega) [-List.getD_eq_getElem?_getD, List.getD_cons_zero, List.getD_cons_succ, kCast_self, dfl_pair, dfl_int, w64, wu64] <;> omega) | (rw [Bool.eq_iff_iff]; simp (disch := omega) [-List.getD_eq_getElem?_getD, List.getD_cons_zero, List.getD_cons_succ, kCast_self, dfl_pair, dfl_int, w64, wu64] <;> omega) | (simp_all [-List.getD_eq_getElem?_getD] <;> omega))
end
end Go.Proofs.YtnheodgffackoaaDoor.E

/- HallSums: the law's contract. -/
namespace Go.Proofs.YtnheodgffackoaaDoor.E
set_option linter.unusedSimpArgs false
set_option linter.unusedVariables false
open Go Go.Proofs.YtnheodgffackoaaDoor.Y
set_option maxRecDepth 100000
set_option maxHeartbeats 4000000
theorem su_0 {V : HV} {hV : V.Ok} {add picks : List Int} (ho : V.o = .counter) (ha : addOk add) (hpl : picks.length ≤ 3000) (hpk : ∀ x ∈ picks, 0 ≤ x ∧ x ≤ 255) (h5 : V.n ≤ 5) (hb : B0 V hV ≤ 291) : ∀ (j i : Nat), i + j = picks.length + 400 * add.length + 400 * V.n → SuNext V hV add picks i
  | 0, i, hi => by
    intro it nx h L cur S cvs pcs clk hit s m
    obtain ⟨hnx, hov⟩ := m.ends s hb (by omega)
    subst hnx
    obtain ⟨f, se⟩ := s.last ho ha rfl hov
    have ih := su_1 (ms := msOf V L) (picks := picks) ho ha se pcs.length [] 0 (by rw [List.filter_eq_self.2 fun e _ => by simp]) (by rw [se.map]; omega)
    rw [se.f0] at ih
    have al1 := ha.1
    have n1 := hV.n1
    have q1 : IntKind.i64.wrap (400 * (add.length : Int)) = 400 * add.length := w64 (by omega) (by omega)
    have q2 : IntKind.i64.wrap ((picks.length : Int) + 400 * add.length) = picks.length + 400 * add.length := w64 (by omega) (by omega)
    have q3 : IntKind.i64.wrap (400 * (V.n : Int)) = 400 * V.n := w64 (by omega) (by omega)
    have q4 : IntKind.i64.wrap ((picks.length : Int) + 400 * add.length + 400 * V.n) = picks.length + 400 * add.length + 400 * V.n := w64 (by omega) (by omega)
    have hco : decide ((i : Int) < IntKind.i64.wrap (IntKind.i64.wrap ((picks.length : Int) + IntKind.i64.wrap (400 * (add.length : Int))) + IntKind.i64.wrap (400 * (V.n : Int)))) = false := by
      rw [q1, q2, q3, q4]; exact decide_eq_false (by omega)
    clear q1 q2 q3 q4
    generalize allN add add.length = al at *
    generalize msOf V L = ms at *
    clear s m se hov
    obtain ⟨b, n, tt, o⟩ := V
    obtain rfl : o = .counter := ho
    refine Goods.to 2000 [.b false, .l, .stop] mixed (ih) (by kernel_rfl) ?_
    show Yes _
    repeat' apply And.intro
    (all_goals first | rfl | assumption | trivial | omega | (simp [-List.getD_eq_getElem?_getD] <;> omega) | (simp (disch := omega) only [w64, wu64] <;> omega) | (simp (disch := omega) [-List.getD_eq_getElem?_getD, List.getD_cons_zero, List.getD_cons_succ, kCast_self, dfl_pair, dfl_int, w64, wu64] <;> omega) | (rw [Bool.eq_iff_iff]; simp (disch := omega) [-List.getD_eq_getElem?_getD, List.getD_cons_zero, List.getD_cons_succ, kCast_self, dfl_pair, dfl_int, w64, wu64] <;> omega) | (simp_all [-List.getD_eq_getElem?_getD] <;> omega))
  | j + 1, i, hi => by
    intro it nx h L cur S cvs pcs clk hit s m
    have next := su_0 ho ha hpl hpk h5 hb j (i + 1) (by omega)
    have al1 := ha.1
    have n0 := hV.n0
    have n1 := hV.n1
    have hlt : i < picks.length + 400 * add.length + 400 * V.n := by omega
    have q1 : IntKind.i64.wrap (400 * (add.length : Int)) = 400 * add.length := w64 (by omega) (by omega)
    have q2 : IntKind.i64.wrap ((picks.length : Int) + 400 * add.length) = picks.length + 400 * add.length := w64 (by omega) (by omega)
    have q3 : IntKind.i64.wrap (400 * (V.n : Int)) = 400 * V.n := w64 (by omega) (by omega)
    have q4 : IntKind.i64.wrap ((picks.length : Int) + 400 * add.length + 400 * V.n) = picks.length + 400 * add.length + 400 * V.n := w64 (by omega) (by omega)
    have hco : decide ((i : Int) < IntKind.i64.wrap (IntKind.i64.wrap ((picks.length : Int) + IntKind.i64.wrap (400 * (add.length : Int))) + IntKind.i64.wrap (400 * (V.n : Int)))) = true := by
      rw [q1, q2, q3, q4]; exact decide_eq_true (by omega)
    clear q1 q2 q3 q4
    by_cases hip : i < picks.length
    · obtain ⟨x, hx, hx2⟩ : ∃ x : Nat, picks.getD i 0 = (x : Int) ∧ x ≤ 255 := by
        have := hpk (picks.getD i 0) (by simp only [List.getD]; rw [List.getElem?_eq_getElem hip]; exact List.getElem_mem _)
        exact ⟨(picks.getD i 0).toNat, by omega, by omega⟩
      have ih := su_17 ho ha hpl h5 s m (by omega) hit (w := x % V.n) (Nat.mod_lt _ n0) (fun h => absurd h (by omega)) next
      have e1 : Int.tmod (x : Int) (V.n : Int) = ((x % V.n : Nat) : Int) := by rw [Int.tmod_eq_emod_of_nonneg (by omega)]; omega
      have e2 : IntKind.i64.wrap (x : Int) = x := w64 (by omega) (by omega)
      generalize allN add nx = al at *
      generalize msOf V L = ms at *
      generalize hy : x % V.n = y at *
      clear s m next
      obtain ⟨b, n, tt, o⟩ := V
      obtain rfl : o = .counter := ho
      refine Goods.to 2000 [.b true, .b true, .upto 17] mixed (ih) (by kernel_rfl) ?_
      show Yes _
      repeat' apply And.intro
      (all_goals first | rfl | assumption | trivial | omega | (simp [-List.getD_eq_getElem?_getD, hx, e1, e2] <;> omega) | (simp (disch := omega) only [w64, wu64] <;> omega) | (simp (disch := omega) [-List.getD_eq_getElem?_getD, List.getD_cons_zero, List.getD_cons_succ, kCast_self, dfl_pair, dfl_int, w64, wu64, hx, e1, e2] <;> omega) | (rw [Bool.eq_iff_iff]; simp (disch := omega) [-List.getD_eq_getElem?_getD, List.getD_cons_zero, List.getD_cons_succ, kCast_self, dfl_pair, dfl_int, w64, wu64, hx, e1, e2] <;> omega) | (simp_all [-List.getD_eq_getElem?_getD] <;> omega))
    · have ih := su_17 ho ha hpl h5 s m (by omega) hit (w := i % V.n) (Nat.mod_lt _ n0) (fun _ => rfl) next
      have e1 : Int.tmod (i : Int) (V.n : Int) = ((i % V.n : Nat) : Int) := by rw [Int.tmod_eq_emod_of_nonneg (by omega)]; omega
      generalize allN add nx = al at *
      generalize msOf V L = ms at *
      generalize hy : i % V.n = y at *
      clear s m next
      obtain ⟨b, n, tt, o⟩ := V
      obtain rfl : o = .counter := ho
      refine Goods.to 2000 [.b true, .b false, .upto 17] mixed (ih) (by kernel_rfl) ?_
      show Yes _
      repeat' apply And.intro
      (all_goals first | rfl | assumption | trivial | omega | (simp [-List.getD_eq_getElem?_getD, e1] <;> omega) | (simp (disch := omega) only [w64, wu64] <;> omega) | (simp (disch := omega) [-List.getD_eq_getElem?_getD, List.getD_cons_zero, List.getD_cons_succ, kCast_self, dfl_pair, dfl_int, w64, wu64, e1] <;> omega) | (rw [Bool.eq_iff_iff]; simp (disch := omega) [-List.getD_eq_getElem?_getD, List.getD_cons_zero, List.getD_cons_succ, kCast_self, dfl_pair, dfl_int, w64, wu64, e1] <;> omega) | (simp_all [-List.getD_eq_getElem?_getD] <;> omega))
def suV (a t : Nat) : HV := ⟨0, 1 + a % 5, t % 4, .counter⟩
theorem suV_ok (a t : Nat) : (suV a t).Ok := ⟨by show 0 ≤ 100000; omega, by show 0 < 1 + a % 5; omega, by show 1 + a % 5 ≤ 200; omega, by show t % 4 ≤ 100; omega⟩
theorem suB (a t : Nat) : B0 (suV a t) (suV_ok a t) ≤ 291 := by
  have e1 : (suV a t).tries = t % 4 := rfl
  have e2 : rkA ((suV a t).par (suV_ok a t)) = 2 * (1 + 3 * (1 + a % 5)) + 4 * (1 + a % 5) + 5 := rfl
  unfold B0
  rw [e1, e2]
  have h1 : t % 4 ≤ 3 := by omega
  have h2 : 2 * (1 + 3 * (1 + a % 5)) + 4 * (1 + a % 5) + 5 ≤ 57 := by omega
  have := Nat.mul_le_mul h1 h2
  omega
def memZ (n : Nat) : MemS := ⟨List.replicate n 0, 0, 0, 0, 0⟩
theorem si0 {V : HV} (hV : V.Ok) (add : List Int) {m : MemS} (hm : MemIs V m (M0 V)) : SI V hV add 0 0 (H0 V m) [] (fun _ => none) (S0 V) (List.replicate V.n (.pointer none)) [] 0 :=
  ⟨hrep0 hV hm, ⟨fun d hd => (by cases hd), fun q c h => (by cases h)⟩, ⟨fun x hx => (by cases hx), fun w i _ h => (by cases h), fun w _ _ => rfl, fun i w c h => (by simp at h), fun w i h => (by cases h), fun w _ => rfl⟩, rfl, Nat.zero_le _, by simp, fun i e h => (by simp at h), fun w hw _ => (by simp [hw]), fun k v => ⟨fun h => (by cases h), fun ⟨e, he, _⟩ => (by cases he)⟩, List.nodup_nil, ⟨List.nodup_nil, fun e he => (by cases he)⟩, rfl, fun e he => (by cases he), Nat.zero_le _⟩
theorem mi0 {V : HV} (hV : V.Ok) (add : List Int) (p0 : Nat) : MI V hV add p0 0 0 [] := by
  have h1 : phiN V hV add 0 [] ≤ B0 V hV * add.length := by
    unfold phiN
    show (add.length - 0) * B0 V hV + 0 ≤ _
    rw [Nat.sub_zero, Nat.mul_comm]; omega
  exact MI.base h1 (fun e he => by cases he) (.inl (Nat.zero_le _)) fun h2 h3 => by omega
theorem HallSums_tri (a t : Nat) (ha : a ≤ 255) (ht : t ≤ 255) (add picks : List Int) (h1 : ∀ x ∈ add, 0 ≤ x ∧ x ≤ 255) (h2 : ∀ x ∈ picks, 0 ≤ x ∧ x ≤ 255) : Tri En 3 [.agg [.int .u8 a, .int .u8 t, .slice 0 0 add.length, .slice 1 0 picks.length]] [.tab false (.int .u8) add, .tab false (.int .u8) picks] (.bl true) (gones 2) := by
  have sp := speaks_tri
  refine Tri.of Tryd.func3 rfl Tryd.call3 rfl ?_
  by_cases c1 : 60 < add.length
  · refine Goods.fin 2000 [.c (.of sp), .s 40 (some true) true true] mixed Tryd.func3 ?_
    show Yes _
    repeat' apply And.intro
    (all_goals first | rfl | assumption | trivial | omega | (simp [-List.getD_eq_getElem?_getD] <;> omega) | (simp (disch := omega) only [w64, wu64] <;> omega) | (simp (disch := omega) [-List.getD_eq_getElem?_getD, List.getD_cons_zero, List.getD_cons_succ, kCast_self, dfl_pair, dfl_int, w64, wu64] <;> omega) | (rw [Bool.eq_iff_iff]; simp (disch := omega) [-List.getD_eq_getElem?_getD, List.getD_cons_zero, List.getD_cons_succ, kCast_self, dfl_pair, dfl_int, w64, wu64] <;> omega) | (simp_all [-List.getD_eq_getElem?_getD] <;> omega))
  · by_cases c2 : 3000 < picks.length
    · refine Goods.fin 2000 [.c (.of sp), .s 40 (some false) true true, .s 43 (some true) true true] mixed Tryd.func3 ?_
      show Yes _
      repeat' apply And.intro
      (all_goals first | rfl | assumption | trivial | omega | (simp [-List.getD_eq_getElem?_getD] <;> omega) | (simp (disch := omega) only [w64, wu64] <;> omega) | (simp (disch := omega) [-List.getD_eq_getElem?_getD, List.getD_cons_zero, List.getD_cons_succ, kCast_self, dfl_pair, dfl_int, w64, wu64] <;> omega) | (rw [Bool.eq_iff_iff]; simp (disch := omega) [-List.getD_eq_getElem?_getD, List.getD_cons_zero, List.getD_cons_succ, kCast_self, dfl_pair, dfl_int, w64, wu64] <;> omega) | (simp_all [-List.getD_eq_getElem?_getD] <;> omega))
    · have t1 := hall_size' .counter (1 + a % 5) (by omega)
      have hsz : HV.size ⟨0, 1 + a % 5, 0, .counter⟩ = (suV a t).size := rfl
      have hsz2 : (suV a t).size ≤ 100000 := by
        show 1 + 4 * (1 + a % 5) + 2 * (1 + a % 5) * (1 + 3 * (1 + a % 5)) ≤ _
        have hq : 1 + a % 5 ≤ 5 := by omega
        have := Nat.mul_le_mul (Nat.mul_le_mul_left 2 hq) (show 1 + 3 * (1 + a % 5) ≤ 16 by omega)
        omega
      rw [hsz] at t1
      have t2 := mem_new ((suV a t).size : Nat)
      rw [show (min (max (((suV a t).size : Nat) : Int) 0) 16777216).toNat = (suV a t).size by omega] at t2
      have t3 := hall_newB (suV a t) (suV_ok a t) 0 (memZ (suV a t).size)
      have hm := mem0 (V := suV a t) (suV_ok a t) (m := memZ (suV a t).size) (by show 0 + (suV a t).size ≤ (List.replicate (suV a t).size 0).length; rw [List.length_replicate]; omega) fun a _ _ => get_zeros ..
      have ih := su_0 (V := suV a t) (hV := suV_ok a t) (add := add) (picks := picks) rfl ⟨by omega, h1⟩ (by omega) h2 (by show 1 + a % 5 ≤ 5; omega) (suB a t) _ 0 (Nat.zero_add _) 0 0 _ _ _ _ _ _ _ (Nat.le_refl _) (si0 (suV_ok a t) add hm) (mi0 ..)
      have e1 : Int.tmod (IntKind.i64.wrap (a : Int)) 5 = ((a % 5 : Nat) : Int) := by rw [w64 (by omega) (by omega), Int.tmod_eq_emod_of_nonneg (by omega)]; omega
      have e2 : Int.tmod (IntKind.i64.wrap (t : Int)) 4 = ((t % 4 : Nat) : Int) := by rw [w64 (by omega) (by omega), Int.tmod_eq_emod_of_nonneg (by omega)]; omega
      have e4 : IntKind.i64.wrap (1 + Int.tmod (IntKind.i64.wrap (a : Int)) 5) = ((1 + a % 5 : Nat) : Int) := by rw [e1, w64 (by omega) (by omega)]; omega
      have e5 : (IntKind.i64.wrap (1 + Int.tmod (IntKind.i64.wrap (a : Int)) 5)).toNat = 1 + a % 5 := by rw [e4]; rfl
      have e3 : allN add 0 = 0 := rfl
      rw [e3] at ih
      unfold memZ at t3 ih
      unfold suV at *
      generalize HV.size _ = sz at *
      have a5l : a % 5 ≤ 4 := by omega
      generalize a % 5 = a5 at *
      clear e1
      generalize t % 4 = t4 at *
      refine Goods.to 2000 [.c (.of sp), .s 40 (some false) true true, .s 43 (some false) true true, .c (.of t1), .c (.of t2), .c (.of t3), .l, .stop] mixed (ih) (by kernel_rfl) ?_
      show Yes _
      repeat' apply And.intro
      (all_goals first | rfl | assumption | trivial | omega | (simp [-List.getD_eq_getElem?_getD, e4, e2] <;> omega) | (simp (disch := omega) only [w64, wu64] <;> omega) | (simp (disch := omega) [-List.getD_eq_getElem?_getD, List.getD_cons_zero, List.getD_cons_succ, kCast_self, dfl_pair, dfl_int, w64, wu64, e4, e2] <;> omega) | (rw [Bool.eq_iff_iff]; simp (disch := omega) [-List.getD_eq_getElem?_getD, List.getD_cons_zero, List.getD_cons_succ, kCast_self, dfl_pair, dfl_int, w64, wu64, e4, e2] <;> omega) | (simp_all [-List.getD_eq_getElem?_getD] <;> omega))
theorem HallSums_law (d : dats ([(true, (.pair (.int .u8) (.pair (.int .u8) (.pair (.slice (.int .u8)) (.pair (.slice (.int .u8)) .unit)))))] : List (Bool × Sh))) (hd : datsOk ([(true, (.pair (.int .u8) (.pair (.int .u8) (.pair (.slice (.int .u8)) (.pair (.slice (.int .u8)) .unit)))))] : List (Bool × Sh)) d) : Tri En 3 (argsOf ([(true, (.pair (.int .u8) (.pair (.int .u8) (.pair (.slice (.int .u8)) (.pair (.slice (.int .u8)) .unit)))))] : List (Bool × Sh)) d 0) (objsOf ([(true, (.pair (.int .u8) (.pair (.int .u8) (.pair (.slice (.int .u8)) (.pair (.slice (.int .u8)) .unit)))))] : List (Bool × Sh)) d) (.bl true) (gones (cnts ([(true, (.pair (.int .u8) (.pair (.int .u8) (.pair (.slice (.int .u8)) (.pair (.slice (.int .u8)) .unit)))))] : List (Bool × Sh)))) := by
  obtain ⟨⟨w8, t8, add, picks, _⟩, _⟩ := d
  obtain ⟨⟨g1, g2, g3, g4, _⟩, _⟩ := hd
  obtain ⟨a, rfl, ha⟩ := wf_u8 g1
  obtain ⟨t, rfl, ht⟩ := wf_u8 g2
  have u8s : ∀ {l : List Int}, (∀ x ∈ l, (Lit.int .u8 x).wf = true) → ∀ x ∈ l, 0 ≤ x ∧ x ≤ 255 := fun h x hx => by
    obtain ⟨n, rfl, hn⟩ := wf_u8 (h x hx)
    omega
  exact HallSums_tri a t ha ht add picks (u8s g3.2) (u8s g4.2)
end Go.Proofs.YtnheodgffackoaaDoor.E
