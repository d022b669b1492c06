/- StockDoes: the law's loops. -/
import Derived.Test.YthlpfafmiakfdaaDoorL12k
namespace Go.Proofs.YthlpfafmiakfdaaDoor.E
set_option linter.unusedSimpArgs false
set_option linter.unusedVariables false
open Go
set_option maxRecDepth 100000
theorem AllA.more {c : Cnf} {lim lim' : Nat} {pl : List PS} {lps : List LP} (h : AllA c lim pl lps) (hl : lim ≤ lim') : AllA c lim' pl lps := ⟨h.lp, h.ll, fun k s l h1 h2 => ⟨(h.agr k s l h1 h2).toAgr.more hl, (h.agr k s l h1 h2).nodup⟩⟩
def lpN : LP := ⟨[], 0⟩
theorem AllA.zero (c : Cnf) : AllA c 0 (List.replicate c.cl.length psN) (List.replicate c.cl.length lpN) := by
  have get : ∀ {β : Type} (z v : β) (i n : Nat), (List.replicate n z)[i]? = some v → v = z := fun z v i n hv => by
    rw [List.getElem?_replicate] at hv
    split at hv
    · exact (Option.some.inj hv).symm
    · cases hv
  refine ⟨by simp, by simp, fun k s l h1 h2 => ?_⟩
  rw [get _ _ _ _ h1, get _ _ _ _ h2]
  exact ⟨⟨⟨Nat.le_refl _, There.nil⟩, rfl, Nat.le_refl _, rfl, (fun b hb => by cases hb), Nat.le_refl _⟩, List.nodup_nil⟩
noncomputable abbrev gSd (own own2 : Bool) (c : Cnf) (ac : List ActT) : Frm := ⟨En, 3, Tryd.f3.ntmps, [.tab own (.int .i64) c.cl, .tab own2 ActK ac], .bl true, [.gone, .gone]⟩
abbrev sdO (own own2 : Bool) (c : Cnf) (ac : List ActT) (pl : List PS) (lps : List LP) : List AObj := [.tab own (.int .i64) c.cl, .tab own2 ActK ac, cnfC c, stkC 5 c, .link 8, clsO c, .link 9, .link 10, .big (FQ (lps.map lpX)), .big (FQ (pl.map pileX)), .big (FQ (pl.map mapX))]
abbrev sdT (c : Cnf) (ac : List ActT) (i : Nat) : Tm := [(2, .ptr 2 0 0), (5, .ptr 3 0 0), (6, .slice 4 0 c.cl.length), (27, .slice 1 0 ac.length), (28, .int .i64 ac.length), (29, .int .i64 i)]
abbrev sdT2 (c : Cnf) (ac : List ActT) (i k : Nat) : Tm := [(2, .ptr 2 0 0), (5, .ptr 3 0 0), (6, .slice 4 0 c.cl.length), (27, .slice 1 0 ac.length), (28, .int .i64 ac.length), (29, .int .i64 i), (39, .slice 4 0 c.cl.length), (40, .int .i64 c.cl.length), (41, .int .i64 k)]
theorem sd_in (own own2 : Bool) (c : Cnf) (h : c.Ok) (ac : List ActT) (hac : ac.length ≤ 100) (pl : List PS) (lps : List LP) (hA : AllA c 20000 pl lps) (i : Nat) (hi : i < ac.length) (next : Goods (gSd own own2 c ac) ⟨.none, lp Tryd.f3 0, sdT c ac (i + 1), hp (sdO own own2 c ac pl lps)⟩) : ∀ (j k : Nat), k + j = c.cl.length →
    Goods (gSd own own2 c ac) ⟨.none, lp Tryd.f3 1, sdT2 c ac i k, hp (sdO own own2 c ac pl lps)⟩
  | 0, k, hk => by
    refine Goods.to 2000 [.b false, .l, .stop] mixed (next) (by kernel_rfl) ?_
    show Yes _
    repeat' apply And.intro
    (all_goals first | rfl | assumption | trivial | omega | (simp [-List.getD_eq_getElem?_getD] <;> omega) | (simp (disch := omega) only [w64, wu64] <;> omega) | (simp (disch := omega) [-List.getD_eq_getElem?_getD, List.getD_cons_zero, List.getD_cons_succ, kCast_self, dfl_pair, dfl_int, w64, wu64] <;> omega) | (rw [Bool.eq_iff_iff]; simp (disch := omega) [-List.getD_eq_getElem?_getD, List.getD_cons_zero, List.getD_cons_succ, kCast_self, dfl_pair, dfl_int, w64, wu64] <;> omega) | (simp_all [-List.getD_eq_getElem?_getD] <;> omega))
  | j + 1, k, hk => by
    have l1 := h.l1
    obtain ⟨s, hs⟩ : ∃ s, pl[k]? = some s := ⟨_, List.getElem?_eq_getElem (by have := hA.lp; omega)⟩
    obtain ⟨l, hl⟩ : ∃ l, lps[k]? = some l := ⟨_, List.getElem?_eq_getElem (by have := hA.ll; omega)⟩
    have hk' : k < lps.length := by have := hA.ll; omega
    have hag := hA.agr k s l hs hl
    have hfew := hag.few
    have hlm := hag.lm
    have hlle := hag.lle
    have hb := blocks_B c h pl hA.lp k s hs hag.good.le (by omega)
    have hsm := same_tri (s.zs.take s.m) l.xs l.m (by omega) (by have := hag.good.len; rw [show s.zs.take s.m = s.pile from rfl, this]; omega) hlle (by
      rw [show l.xs.take l.m = s.pile from hag.pile, show s.zs.take s.m = s.pile from rfl]
      exact List.take_of_length_le (by rw [hag.good.len]; omega))
    have ih := sd_in own own2 c h ac hac pl lps hA i hi next j (k + 1) (by omega)
    have mid : Goods (gSd own own2 c ac) ⟨.none, lp Tryd.f3 1, sdT2 c ac i (k + 1), hp [.tab own (.int .i64) c.cl, .tab own2 ActK ac, cnfC c, stkC 5 c, .link 12, clsO c, .link 9, .link 10, .gone, .big (FQ (pl.map pileX)), .big (FQ (pl.map mapX)), .gone, .big (FQ (lps.map lpX))]⟩ := by
      refine Goods.to 2000 [.stop] mixed (ih) (by kernel_rfl) ?_
      show Yes _
      repeat' apply And.intro
      (all_goals first | rfl | assumption | trivial | omega | (simp [-List.getD_eq_getElem?_getD] <;> omega) | (simp (disch := omega) only [w64, wu64] <;> omega) | (simp (disch := omega) [-List.getD_eq_getElem?_getD, List.getD_cons_zero, List.getD_cons_succ, kCast_self, dfl_pair, dfl_int, w64, wu64] <;> omega) | (rw [Bool.eq_iff_iff]; simp (disch := omega) [-List.getD_eq_getElem?_getD, List.getD_cons_zero, List.getD_cons_succ, kCast_self, dfl_pair, dfl_int, w64, wu64] <;> omega) | (simp_all [-List.getD_eq_getElem?_getD] <;> omega))
    have back : ∀ x : List Value × List Value, Goods (gSd own own2 c ac) ⟨.none, lp Tryd.f3 1, sdT2 c ac i (k + 1), hp [.tab own (.int .i64) c.cl, .tab own2 ActK ac, cnfC c, stkC 5 c, .mix k (eqP x.1 x.2) (.slice 8 0 l.m), clsO c, .link 9, .link 10, .tab true BlkK l.xs, .big (FQ (pl.map pileX)), .big (FQ (pl.map mapX)), .big (RQ k x.1 x.2 (lps.map lpX))]⟩ := fun x => by
      refine Goods.turn (α := Unit) (fun _ => mid) fun B ρ w hH => ?_
      obtain ⟨ρ1, r1, m1, c1⟩ := hH.closeF (i := 4) (j := 8) (r := 11) (k := k) (o := .tab true BlkK l.xs) (av := .slice 0 0 l.m) rfl rfl rfl (by simpa using hk') rfl (by simp) fun l u hl hd => den_slice0 hl hd
      obtain ⟨r2, c2⟩ := hp_eq (os := [.tab own (.int .i64) c.cl, .tab own2 ActK ac, cnfC c, stkC 5 c, .link 12, clsO c, .link 9, .link 10, .gone, .big (FQ (pl.map pileX)), .big (FQ (pl.map mapX)), .gone, .big (FQ (lps.map lpX))]) rfl (fun i hi => match i, hi with
        | 0, _ => rfl | 1, _ => rfl | 2, _ => rfl | 3, _ => rfl | 4, _ => rfl | 5, _ => rfl | 6, _ => rfl | 7, _ => rfl | 8, _ => rfl | 9, _ => rfl | 10, _ => rfl | 11, _ => rfl | 12, _ => by show AObj.big (FQ ((lps.map lpX).set k (lpX l))) = AObj.big (FQ (lps.map lpX)); rw [set_id (show (lps.map lpX)[k]? = some (lpX l) by rw [List.getElem?_map, hl]; rfl)] | n + 13, h => absurd h (by simp)) r1
      exact ⟨(), ρ1, r2, m1, fun b hb => c1 b (c2 b hb)⟩
    have opened : ∀ x : List Value × List Value, Goods (gSd own own2 c ac) ⟨.none, lp Tryd.f3 1, sdT2 c ac i k, hp [.tab own (.int .i64) c.cl, .tab own2 ActK ac, cnfC c, stkC 5 c, .mix k (eqP x.1 x.2) (.slice 11 0 l.m), clsO c, .link 9, .link 10, .gone, .big (FQ (pl.map pileX)), .big (FQ (pl.map mapX)), .tab true BlkK l.xs, .big (RQ k x.1 x.2 (lps.map lpX))]⟩ := fun x => by
      have bk := back x
      generalize hq : s.zs.take s.m = p at hb hsm
      rw [← hlm] at hb
      clear hq
      refine Goods.to 2000 [.b true, .c (.of hb), .c (.of hsm), .l, .stop] mixed (bk) (by kernel_rfl) ?_
      show Yes _
      repeat' apply And.intro
      (all_goals first | rfl | assumption | trivial | omega | (simp [-List.getD_eq_getElem?_getD] <;> omega) | (simp (disch := omega) only [w64, wu64] <;> omega) | (simp (disch := omega) [-List.getD_eq_getElem?_getD, List.getD_cons_zero, List.getD_cons_succ, kCast_self, dfl_pair, dfl_int, w64, wu64] <;> omega) | (rw [Bool.eq_iff_iff]; simp (disch := omega) [-List.getD_eq_getElem?_getD, List.getD_cons_zero, List.getD_cons_succ, kCast_self, dfl_pair, dfl_int, w64, wu64] <;> omega) | (simp_all [-List.getD_eq_getElem?_getD] <;> omega))
    refine Goods.turn opened fun B ρ w hH => ?_
    have e1 : (lps.map lpX)[k]? = some (.tab true BlkK l.xs, .slice 0 0 l.m) := by rw [List.getElem?_map, hl]; rfl
    obtain ⟨us, ws, ρ1, _, r1, m1, c1⟩ := hH.openF (i := 4) (j := 8) rfl rfl e1
    obtain ⟨r2, c2⟩ := hp_eq (os := [.tab own (.int .i64) c.cl, .tab own2 ActK ac, cnfC c, stkC 5 c, .mix k (eqP us ws) (.slice 11 0 l.m), clsO c, .link 9, .link 10, .gone, .big (FQ (pl.map pileX)), .big (FQ (pl.map mapX)), .tab true BlkK l.xs, .big (RQ k us ws (lps.map lpX))]) rfl (fun i hi => match i, hi with
      | 0, _ => rfl | 1, _ => rfl | 2, _ => rfl | 3, _ => rfl | 4, _ => rfl | 5, _ => rfl | 6, _ => rfl | 7, _ => rfl | 8, _ => rfl | 9, _ => rfl | 10, _ => rfl | 11, _ => rfl | 12, _ => rfl | n + 13, h => absurd h (by simp)) r1
    exact ⟨(us, ws), ρ1, r2, m1, fun b hb => c1 b (c2 b hb)⟩
theorem sd_0 (own own2 : Bool) (c : Cnf) (h : c.Ok) (S : Nat) (hS : (S : Int) = c.s) (ac : List ActT) (hac : ac.length ≤ 100) (ha : ∀ i, i < ac.length → 0 ≤ (ac.getD i (dfl ActK)).2.2.2 ∧ (ac.getD i (dfl ActK)).2.2.2 ≤ 18446744073709551615) : ∀ (j i : Nat) (pl : List PS) (lps : List LP), i + j = ac.length → AllA c (64 * i) pl lps →
    Goods (gSd own own2 c ac) ⟨.none, lp Tryd.f3 0, sdT c ac i, hp (sdO own own2 c ac pl lps)⟩
  | 0, i, pl, lps, hi, hA => by
    refine Goods.fin 2000 [.b false] mixed Tryd.func3 ?_
    show Yes _
    repeat' apply And.intro
    (all_goals first | rfl | assumption | trivial | omega | (simp [-List.getD_eq_getElem?_getD] <;> omega) | (simp (disch := omega) only [w64, wu64] <;> omega) | (simp (disch := omega) [-List.getD_eq_getElem?_getD, List.getD_cons_zero, List.getD_cons_succ, kCast_self, dfl_pair, dfl_int, w64, wu64] <;> omega) | (rw [Bool.eq_iff_iff]; simp (disch := omega) [-List.getD_eq_getElem?_getD, List.getD_cons_zero, List.getD_cons_succ, kCast_self, dfl_pair, dfl_int, w64, wu64] <;> omega) | (simp_all [-List.getD_eq_getElem?_getD] <;> omega))
  | j + 1, i, pl, lps, hi, hA => by
    have l1 := h.l1
    have hA' := hA.step (S := S) (ac.getD i (dfl ActK))
    have next := sd_0 own own2 c h S hS ac hac ha j (i + 1) _ _ (by omega) (hA'.more (by omega))
    have ih := sd_in own own2 c h ac hac _ _ (hA'.more (by omega)) i (by omega) next c.cl.length 0 (by omega)
    have h1 := do_all own c h S hS pl lps (hA.more (by omega)) (ac.getD i (dfl ActK)) (ha i (by omega))
    generalize stepPL c S (ac.getD i (dfl ActK)) pl = pl' at *
    generalize stepLL c S (ac.getD i (dfl ActK)) lps = lps' at *
    generalize hB : ac.getD i (dfl ActK) = a at *
    refine Goods.to 2000 [.b true, .c (.of h1), .l, .stop] mixed (ih) (by kernel_rfl) ?_
    show Yes _
    repeat' apply And.intro
    (all_goals first | rfl | assumption | trivial | omega | (simp [-List.getD_eq_getElem?_getD, hB] <;> omega) | (simp (disch := omega) only [w64, wu64] <;> omega) | (simp (disch := omega) [-List.getD_eq_getElem?_getD, List.getD_cons_zero, List.getD_cons_succ, kCast_self, dfl_pair, dfl_int, w64, wu64, hB] <;> omega) | (rw [Bool.eq_iff_iff]; simp (disch := omega) [-List.getD_eq_getElem?_getD, List.getD_cons_zero, List.getD_cons_succ, kCast_self, dfl_pair, dfl_int, w64, wu64, hB] <;> omega) | (simp_all [-List.getD_eq_getElem?_getD] <;> omega))
theorem lp_nil : lpX lpN = pileX psN := rfl
/-- The law's own piles, at first. -/
theorem sd_start (own own2 : Bool) (c : Cnf) (h : c.Ok) (S : Nat) (hS : (S : Int) = c.s) (ac : List ActT) (hac : ac.length ≤ 100) (ha : ∀ i, i < ac.length → 0 ≤ (ac.getD i (dfl ActK)).2.2.2 ∧ (ac.getD i (dfl ActK)).2.2.2 ≤ 18446744073709551615) :
    Goods (gSd own own2 c ac) ⟨.none, lp Tryd.f3 0, sdT c ac 0, hp [.tab own (.int .i64) c.cl, .tab own2 ActK ac, cnfC c, stkC 5 c, .tab true .raw (nils c.cl.length), clsO c, .link 8, .link 9, .big (FQ ((List.replicate c.cl.length psN).map pileX)), .big (FQ ((List.replicate c.cl.length psN).map mapX))]⟩ := by
  have l0 := h.l0
  have ih := sd_0 own own2 c h S hS ac hac ha ac.length 0 _ _ (by omega) (AllA.zero c)
  have mid : Goods (gSd own own2 c ac) ⟨.none, lp Tryd.f3 0, sdT c ac 0, hp [.tab own (.int .i64) c.cl, .tab own2 ActK ac, cnfC c, stkC 5 c, .link 11, clsO c, .link 8, .link 9, .big (FQ ((List.replicate c.cl.length psN).map pileX)), .big (FQ ((List.replicate c.cl.length psN).map mapX)), .gone, .big (FQ ((List.replicate c.cl.length lpN).map lpX))]⟩ := by
    refine Goods.to 2000 [.stop] mixed (ih) (by kernel_rfl) ?_
    show Yes _
    repeat' apply And.intro
    (all_goals first | rfl | assumption | trivial | omega | (simp [-List.getD_eq_getElem?_getD] <;> omega) | (simp (disch := omega) only [w64, wu64] <;> omega) | (simp (disch := omega) [-List.getD_eq_getElem?_getD, List.getD_cons_zero, List.getD_cons_succ, kCast_self, dfl_pair, dfl_int, w64, wu64] <;> omega) | (rw [Bool.eq_iff_iff]; simp (disch := omega) [-List.getD_eq_getElem?_getD, List.getD_cons_zero, List.getD_cons_succ, kCast_self, dfl_pair, dfl_int, w64, wu64] <;> omega) | (simp_all [-List.getD_eq_getElem?_getD] <;> omega))
  refine Goods.turn (α := Unit) (fun _ => mid) fun B ρ w hH => ?_
  obtain ⟨f1, f2⟩ := nil_fam w c.cl.length
  obtain ⟨r1, b1⟩ := hH.emptyG f1 f2
  have m1 := upd_mono hH ⟨0, 0, 0, 0⟩
  obtain ⟨ρ2, r2, m2, b2⟩ := r1.wrapG (i := 4) (r := 10) rfl rfl (by simp [nils]; omega)
  obtain ⟨r3, b3⟩ := hp_eq (os := [.tab own (.int .i64) c.cl, .tab own2 ActK ac, cnfC c, stkC 5 c, .link 11, clsO c, .link 8, .link 9, .big (FQ ((List.replicate c.cl.length psN).map pileX)), .big (FQ ((List.replicate c.cl.length psN).map mapX)), .gone, .big (FQ ((List.replicate c.cl.length lpN).map lpX))]) rfl (fun i hi => match i, hi with
    | 0, _ => rfl | 1, _ => rfl | 2, _ => rfl | 3, _ => rfl | 4, _ => rfl | 5, _ => rfl | 6, _ => rfl | 7, _ => rfl | 8, _ => rfl | 9, _ => rfl | 10, _ => rfl | 11, _ => by show _ = AObj.big (FQ ((List.replicate c.cl.length lpN).map lpX)); rw [show (List.replicate c.cl.length lpN).map lpX = List.replicate c.cl.length (pileX psN) by rw [List.map_replicate]; rfl]; rfl | n + 12, h => absurd h (by simp)) r2
  exact ⟨(), ρ2, r3, fun q l hq => m2 q l (m1 q l hq), fun b hb => b1 b (b2 b (b3 b hb))⟩
set_option maxHeartbeats 4000000 in
theorem StockDoes_tri (own own2 : Bool) (c : Cnf) (hcl : c.cl.length ≤ 9223372036854775807) (ac : List ActT) (hal : ac.length ≤ 9223372036854775807) (ha : ∀ i, i < ac.length → 0 ≤ (ac.getD i (dfl ActK)).2.2.2 ∧ (ac.getD i (dfl ActK)).2.2.2 ≤ 18446744073709551615) : Tri En 3 [cnfA 0 c, .slice 1 0 ac.length] [.tab own (.int .i64) c.cl, .tab own2 ActK ac] (.bl true) [.gone, .gone] := by
  refine Tri.of Tryd.func3 rfl Tryd.call3 rfl ?_
  by_cases h : c.Ok
  · have hy := may_yes own c h
    by_cases hb : 100 < ac.length
    · refine Goods.fin 2000 [.c (.of speaks_tri), .c (.of hy), .s 19 (some true) true true] mixed Tryd.func3 ?_
      show Yes _
      repeat' apply And.intro
      (all_goals first | rfl | assumption | trivial | omega | (simp [-List.getD_eq_getElem?_getD] <;> omega) | (simp (disch := omega) only [w64, wu64] <;> omega) | (simp (disch := omega) [-List.getD_eq_getElem?_getD, List.getD_cons_zero, List.getD_cons_succ, kCast_self, dfl_pair, dfl_int, w64, wu64] <;> omega) | (rw [Bool.eq_iff_iff]; simp (disch := omega) [-List.getD_eq_getElem?_getD, List.getD_cons_zero, List.getD_cons_succ, kCast_self, dfl_pair, dfl_int, w64, wu64] <;> omega) | (simp_all [-List.getD_eq_getElem?_getD] <;> omega))
    · have l1 := h.l1
      have s0 := h.s0
      obtain ⟨S, hS⟩ : ∃ S : Nat, (S : Int) = c.s := ⟨c.s.toNat, by omega⟩
      have hn := new_B own c h
      have ih := sd_start own own2 c h S hS ac (by omega) ha
      generalize (List.replicate c.cl.length psN).map pileX = P at *
      generalize (List.replicate c.cl.length psN).map mapX = M at *
      refine Goods.to 2000 [.c (.of speaks_tri), .c (.of hy), .s 19 (some false) true true, .k 22 (.of hn), .l, .stop] mixed (ih) (by kernel_rfl) ?_
      show Yes _
      repeat' apply And.intro
      (all_goals first | rfl | assumption | trivial | omega | (simp [-List.getD_eq_getElem?_getD] <;> omega) | (simp (disch := omega) only [w64, wu64] <;> omega) | (simp (disch := omega) [-List.getD_eq_getElem?_getD, List.getD_cons_zero, List.getD_cons_succ, kCast_self, dfl_pair, dfl_int, w64, wu64] <;> omega) | (rw [Bool.eq_iff_iff]; simp (disch := omega) [-List.getD_eq_getElem?_getD, List.getD_cons_zero, List.getD_cons_succ, kCast_self, dfl_pair, dfl_int, w64, wu64] <;> omega) | (simp_all [-List.getD_eq_getElem?_getD] <;> omega))
  · have hy := may_no own c hcl h
    refine Goods.fin 2000 [.c (.of speaks_tri), .c (.of hy)] mixed Tryd.func3 ?_
    show Yes _
    repeat' apply And.intro
    (all_goals first | rfl | assumption | trivial | omega | (simp [-List.getD_eq_getElem?_getD] <;> omega) | (simp (disch := omega) only [w64, wu64] <;> omega) | (simp (disch := omega) [-List.getD_eq_getElem?_getD, List.getD_cons_zero, List.getD_cons_succ, kCast_self, dfl_pair, dfl_int, w64, wu64] <;> omega) | (rw [Bool.eq_iff_iff]; simp (disch := omega) [-List.getD_eq_getElem?_getD, List.getD_cons_zero, List.getD_cons_succ, kCast_self, dfl_pair, dfl_int, w64, wu64] <;> omega) | (simp_all [-List.getD_eq_getElem?_getD] <;> omega))
theorem act12_bounds {l : List ActT} (h : ∀ y ∈ l, okK ActK y) : ∀ k, k < l.length → 0 ≤ (l.getD k (dfl ActK)).2.2.2 ∧ (l.getD k (dfl ActK)).2.2.2 ≤ 18446744073709551615 := fun k hk => wf_u64 (h (l.getD k (dfl ActK)) (by simp [List.getD, hk])).2.2.2
theorem StockDoes_law (d : dats ([(true, (.pair (.int .i64) (.pair (.int .i64) (.pair (.int .i64) (.pair (.int .i64) (.pair (.slice (.int .i64)) .unit)))))), (false, (.slice (.pair (.int .i64) (.pair (.int .i64) (.pair (.pair (.int .i64) (.pair (.int .i64) .unit)) (.pair (.int .u64) .unit))))))] : List (Bool × Sh))) (hd : datsOk ([(true, (.pair (.int .i64) (.pair (.int .i64) (.pair (.int .i64) (.pair (.int .i64) (.pair (.slice (.int .i64)) .unit)))))), (false, (.slice (.pair (.int .i64) (.pair (.int .i64) (.pair (.pair (.int .i64) (.pair (.int .i64) .unit)) (.pair (.int .u64) .unit))))))] : List (Bool × Sh)) d) : Tri En 3 (argsOf ([(true, (.pair (.int .i64) (.pair (.int .i64) (.pair (.int .i64) (.pair (.int .i64) (.pair (.slice (.int .i64)) .unit)))))), (false, (.slice (.pair (.int .i64) (.pair (.int .i64) (.pair (.pair (.int .i64) (.pair (.int .i64) .unit)) (.pair (.int .u64) .unit))))))] : List (Bool × Sh)) d 0) (objsOf ([(true, (.pair (.int .i64) (.pair (.int .i64) (.pair (.int .i64) (.pair (.int .i64) (.pair (.slice (.int .i64)) .unit)))))), (false, (.slice (.pair (.int .i64) (.pair (.int .i64) (.pair (.pair (.int .i64) (.pair (.int .i64) .unit)) (.pair (.int .u64) .unit))))))] : List (Bool × Sh)) d) (.bl true) (gones (cnts ([(true, (.pair (.int .i64) (.pair (.int .i64) (.pair (.int .i64) (.pair (.int .i64) (.pair (.slice (.int .i64)) .unit)))))), (false, (.slice (.pair (.int .i64) (.pair (.int .i64) (.pair (.pair (.int .i64) (.pair (.int .i64) .unit)) (.pair (.int .u64) .unit))))))] : List (Bool × Sh)))) := by
  obtain ⟨⟨w, s, b, t, cl, _⟩, l, _⟩ := d
  obtain ⟨⟨h0, h1, h2, h3, ⟨h4, _⟩, _⟩, ⟨h6, h7⟩, _⟩ := hd
  exact StockDoes_tri false false ⟨w, s, b, t, cl⟩ (maxLen_le h4) l (maxLen_le h6) (act12_bounds h7)
end Go.Proofs.YthlpfafmiakfdaaDoor.E
