/- StockClasses: the law. -/
import Derived.Test.YthlpfafmiakfdaaDoorL12l
namespace Go.Proofs.YthlpfafmiakfdaaDoor.E
set_option linter.unusedSimpArgs false
set_option linter.unusedVariables false
open Go
set_option maxRecDepth 100000
theorem stepPL_ne {c : Cnf} {S : Nat} {a : ActT} {pl : List PS} {k : Nat} (h : a.2.1 ≠ (k : Int)) : (stepPL c S a pl)[k]? = pl[k]? := by
  unfold stepPL
  split
  · split
    · rw [List.getElem?_set_ne (by omega)]
    · rfl
  · rfl
theorem stepPL_eq {c : Cnf} {S : Nat} {a : ActT} {pl ql : List PS} {k : Nat} (h : a.2.1 = (k : Int)) (hpq : pl[k]? = ql[k]?) : (stepPL c S a pl)[k]? = (stepPL c S a ql)[k]? := by
  have e : a.2.1.toNat = k := by omega
  unfold stepPL
  rw [e, hpq]
  cases hq : ql[k]? with
  | none => simp only; rw [hpq, hq]
  | some s =>
    simp only
    rw [if_pos (by omega), if_pos (by omega), set_at (hpq.trans hq), set_at hq]
theorem same_nil : Tri En 12 [.nilslice, .nilslice] [] (.bl true) [] := by
  refine Tri.of Tryd.func12 rfl Tryd.call12 rfl ?_
  refine Goods.fin 2000 [.b false, .l, .b false] mixed Tryd.func12 ?_
  show Yes _
  repeat' apply And.intro
  (all_goals first | rfl | assumption | trivial | omega | (simp [-List.getD_eq_getElem?_getD] <;> omega) | (simp (disch := omega) only [w64, wu64] <;> omega) | (simp (disch := omega) [-List.getD_eq_getElem?_getD, List.getD_cons_zero, List.getD_cons_succ, kCast_self, dfl_pair, dfl_int, w64, wu64] <;> omega) | (rw [Bool.eq_iff_iff]; simp (disch := omega) [-List.getD_eq_getElem?_getD, List.getD_cons_zero, List.getD_cons_succ, kCast_self, dfl_pair, dfl_int, w64, wu64] <;> omega) | (simp_all [-List.getD_eq_getElem?_getD] <;> omega))
noncomputable abbrev gSc (own own2 : Bool) (c : Cnf) (ac : List ActT) : Frm := ⟨En, 6, Tryd.f6.ntmps, [.tab own (.int .i64) c.cl, .tab own2 ActK ac], .bl true, [.gone, .gone]⟩
abbrev scO (own own2 : Bool) (c : Cnf) (ac : List ActT) (pl ql : List PS) (lps lqs : List LP) : List AObj := [.tab own (.int .i64) c.cl, .tab own2 ActK ac, cnfC c, stkC 7 c, stkC 10 c, .link 13, .link 14, clsO c, .link 15, .link 16, clsO c, .link 17, .link 18, .big (FQ (lps.map lpX)), .big (FQ (lqs.map lpX)), .big (FQ (pl.map pileX)), .big (FQ (pl.map mapX)), .big (FQ (ql.map pileX)), .big (FQ (ql.map mapX))]
abbrev scT (c : Cnf) (ac : List ActT) (cls : Int) (i : Nat) : Tm := [(2, .int .i64 cls), (3, .ptr 2 0 0), (7, .ptr 3 0 0), (8, .ptr 4 0 0), (9, .slice 5 0 c.cl.length), (10, .slice 6 0 c.cl.length), (35, .slice 1 0 ac.length), (36, .int .i64 ac.length), (37, .int .i64 i)]
set_option maxHeartbeats 4000000 in
theorem sc_end (own own2 : Bool) (c : Cnf) (h : c.Ok) (ac : List ActT) (hac : ac.length ≤ 100) (cls : Int) (pl ql : List PS) (lps lqs : List LP) (hA : AllA c 20000 pl lps) (hB : AllA c 20000 ql lqs) (hq : ∀ k : Nat, cls = k → pl[k]? = ql[k]?) :
    Goods (gSc own own2 c ac) ⟨.none, lp Tryd.f6 0, scT c ac cls ac.length, hp (scO own own2 c ac pl ql lps lqs)⟩ := by
  have l1 := h.l1
  by_cases hk : 0 ≤ cls ∧ cls < c.cl.length
  · obtain ⟨k, rfl⟩ : ∃ k : Nat, cls = k := ⟨cls.toNat, by omega⟩
    obtain ⟨s, hs⟩ : ∃ s, pl[k]? = some s := ⟨_, List.getElem?_eq_getElem (by have := hA.lp; omega)⟩
    obtain ⟨l, hl⟩ : ∃ l, lps[k]? = some l := ⟨_, List.getElem?_eq_getElem (by have := hA.ll; omega)⟩
    have hs2 : ql[k]? = some s := by rw [← hq k rfl]; exact hs
    have hag := hA.agr k s l hs hl
    have hfew := hag.few
    have hlen := hag.good.len
    have h1 := blocks_B c h pl hA.lp k s hs hag.good.le (by omega)
    have h2 := blocks_B c h ql hB.lp k s hs2 hag.good.le (by omega)
    have h3 := len_B c h pl hA.lp k s hs
    have h4 := len_B c h ql hB.lp k s hs2
    rw [set_id hs] at h3
    rw [set_id hs2] at h4
    have hp1 : (s.zs.take s.m).length = s.m := hlen
    have h5 := same_tri (s.zs.take s.m) (s.zs.take s.m) s.m (by omega) (by omega) (by omega) rfl
    generalize s.zs.take s.m = p at *
    refine Goods.fin 2000 [.b false, .c (.of h1), .c (.of h2), .c (.of h5), .c (.of h3), .c (.of h4), .s 70 (some true) true true] mixed Tryd.func6 ?_
    show Yes _
    repeat' apply And.intro
    (all_goals first | rfl | assumption | trivial | omega | (simp [-List.getD_eq_getElem?_getD] <;> omega) | (simp (disch := omega) only [w64, wu64] <;> omega) | (simp (disch := omega) [-List.getD_eq_getElem?_getD, List.getD_cons_zero, List.getD_cons_succ, kCast_self, dfl_pair, dfl_int, w64, wu64] <;> omega) | (rw [Bool.eq_iff_iff]; simp (disch := omega) [-List.getD_eq_getElem?_getD, List.getD_cons_zero, List.getD_cons_succ, kCast_self, dfl_pair, dfl_int, w64, wu64] <;> omega) | (simp_all [-List.getD_eq_getElem?_getD] <;> omega))
  · have h1 := blocks_N c l1 pl cls hk
    have h2 := blocks_N c l1 ql cls hk
    have h3 := len_N c l1 pl cls hk
    have h4 := len_N c l1 ql cls hk
    refine Goods.fin 2000 [.b false, .c (.of h1), .c (.of h2), .c (.of same_nil), .c (.of h3), .c (.of h4), .s 70 (some true) true true] mixed Tryd.func6 ?_
    show Yes _
    repeat' apply And.intro
    (all_goals first | rfl | assumption | trivial | omega | (simp [-List.getD_eq_getElem?_getD] <;> omega) | (simp (disch := omega) only [w64, wu64] <;> omega) | (simp (disch := omega) [-List.getD_eq_getElem?_getD, List.getD_cons_zero, List.getD_cons_succ, kCast_self, dfl_pair, dfl_int, w64, wu64] <;> omega) | (rw [Bool.eq_iff_iff]; simp (disch := omega) [-List.getD_eq_getElem?_getD, List.getD_cons_zero, List.getD_cons_succ, kCast_self, dfl_pair, dfl_int, w64, wu64] <;> omega) | (simp_all [-List.getD_eq_getElem?_getD] <;> omega))
set_option maxHeartbeats 4000000 in
theorem sc_0 (own own2 : Bool) (c : Cnf) (h : c.Ok) (S : Nat) (hS : (S : Int) = c.s) (ac : List ActT) (hac : ac.length ≤ 100) (ha : ∀ i, i < ac.length → 0 ≤ (ac.getD i (dfl ActK)).2.2.2 ∧ (ac.getD i (dfl ActK)).2.2.2 ≤ 18446744073709551615) (cls : Int) : ∀ (j i : Nat) (pl ql : List PS) (lps lqs : List LP), i + j = ac.length → AllA c (64 * i) pl lps → AllA c (64 * i) ql lqs → (∀ k : Nat, cls = k → pl[k]? = ql[k]?) →
    Goods (gSc own own2 c ac) ⟨.none, lp Tryd.f6 0, scT c ac cls i, hp (scO own own2 c ac pl ql lps lqs)⟩
  | 0, i, pl, ql, lps, lqs, hi, hA, hB, hq => by
    obtain rfl : i = ac.length := by omega
    exact sc_end own own2 c h ac hac cls pl ql lps lqs (hA.more (by omega)) (hB.more (by omega)) hq
  | j + 1, i, pl, ql, lps, lqs, hi, hA, hB, hq => by
    have l1 := h.l1
    have hil : i < ac.length := by omega
    have hA' := hA.step (S := S) (ac.getD i (dfl ActK))
    have h1 := do_all own c h S hS pl lps (hA.more (by omega)) (ac.getD i (dfl ActK)) (ha i hil)
    by_cases hc : (ac.getD i (dfl ActK)).2.1 = cls
    · have hB' := hB.step (S := S) (ac.getD i (dfl ActK))
      have h2 := do_all own c h S hS ql lqs (hB.more (by omega)) (ac.getD i (dfl ActK)) (ha i hil)
      have ih := sc_0 own own2 c h S hS ac hac ha cls j (i + 1) _ _ _ _ (by omega) (hA'.more (by omega)) (hB'.more (by omega)) fun k hk => stepPL_eq (hc.trans hk) (hq k hk)
      generalize stepPL c S (ac.getD i (dfl ActK)) pl = pl' at *
      generalize stepLL c S (ac.getD i (dfl ActK)) lps = lps' at *
      generalize stepPL c S (ac.getD i (dfl ActK)) ql = ql' at *
      generalize stepLL c S (ac.getD i (dfl ActK)) lqs = lqs' at *
      generalize hX : ac.getD i (dfl ActK) = a at *
      refine Goods.to 2000 [.b true, .c (.of h1), .b true, .c (.of h2), .l, .stop] mixed (ih) (by kernel_rfl) ?_
      show Yes _
      repeat' apply And.intro
      (all_goals first | rfl | assumption | trivial | omega | (simp [-List.getD_eq_getElem?_getD, hX] <;> omega) | (simp (disch := omega) only [w64, wu64] <;> omega) | (simp (disch := omega) [-List.getD_eq_getElem?_getD, List.getD_cons_zero, List.getD_cons_succ, kCast_self, dfl_pair, dfl_int, w64, wu64, hX] <;> omega) | (rw [Bool.eq_iff_iff]; simp (disch := omega) [-List.getD_eq_getElem?_getD, List.getD_cons_zero, List.getD_cons_succ, kCast_self, dfl_pair, dfl_int, w64, wu64, hX] <;> omega) | (simp_all [-List.getD_eq_getElem?_getD] <;> omega))
    · have ih := sc_0 own own2 c h S hS ac hac ha cls j (i + 1) _ _ _ _ (by omega) (hA'.more (by omega)) (hB.more (by omega)) fun k hk => (stepPL_ne (fun e => hc (e.trans hk.symm))).trans (hq k hk)
      generalize stepPL c S (ac.getD i (dfl ActK)) pl = pl' at *
      generalize stepLL c S (ac.getD i (dfl ActK)) lps = lps' at *
      generalize hX : ac.getD i (dfl ActK) = a at *
      refine Goods.to 2000 [.b true, .c (.of h1), .b false, .l, .stop] mixed (ih) (by kernel_rfl) ?_
      show Yes _
      repeat' apply And.intro
      (all_goals first | rfl | assumption | trivial | omega | (simp [-List.getD_eq_getElem?_getD, hX] <;> omega) | (simp (disch := omega) only [w64, wu64] <;> omega) | (simp (disch := omega) [-List.getD_eq_getElem?_getD, List.getD_cons_zero, List.getD_cons_succ, kCast_self, dfl_pair, dfl_int, w64, wu64, hX] <;> omega) | (rw [Bool.eq_iff_iff]; simp (disch := omega) [-List.getD_eq_getElem?_getD, List.getD_cons_zero, List.getD_cons_succ, kCast_self, dfl_pair, dfl_int, w64, wu64, hX] <;> omega) | (simp_all [-List.getD_eq_getElem?_getD] <;> omega))
theorem sc_start (own own2 : Bool) (c : Cnf) (h : c.Ok) (S : Nat) (hS : (S : Int) = c.s) (ac : List ActT) (hac : ac.length ≤ 100) (ha : ∀ i, i < ac.length → 0 ≤ (ac.getD i (dfl ActK)).2.2.2 ∧ (ac.getD i (dfl ActK)).2.2.2 ≤ 18446744073709551615) (cls : Int) :
    Goods (gSc own own2 c ac) ⟨.none, lp Tryd.f6 0, scT c ac cls 0, hp [.tab own (.int .i64) c.cl, .tab own2 ActK ac, cnfC c, stkC 7 c, stkC 10 c, .tab true .raw (nils c.cl.length), .tab true .raw (nils c.cl.length), clsO c, .link 13, .link 14, clsO c, .link 15, .link 16, .big (FQ ((List.replicate c.cl.length psN).map pileX)), .big (FQ ((List.replicate c.cl.length psN).map mapX)), .big (FQ ((List.replicate c.cl.length psN).map pileX)), .big (FQ ((List.replicate c.cl.length psN).map mapX))]⟩ := by
  have l0 := h.l0
  have ih := sc_0 own own2 c h S hS ac hac ha cls ac.length 0 _ _ _ _ (by omega) (AllA.zero c) (AllA.zero c) fun _ _ => rfl
  have mid : Goods (gSc own own2 c ac) ⟨.none, lp Tryd.f6 0, scT c ac cls 0, hp [.tab own (.int .i64) c.cl, .tab own2 ActK ac, cnfC c, stkC 7 c, stkC 10 c, .link 18, .link 20, clsO c, .link 13, .link 14, clsO c, .link 15, .link 16, .big (FQ ((List.replicate c.cl.length psN).map pileX)), .big (FQ ((List.replicate c.cl.length psN).map mapX)), .big (FQ ((List.replicate c.cl.length psN).map pileX)), .big (FQ ((List.replicate c.cl.length psN).map mapX)), .gone, .big (FQ ((List.replicate c.cl.length lpN).map lpX)), .gone, .big (FQ ((List.replicate c.cl.length lpN).map lpX))]⟩ := by
    refine Goods.to 2000 [.stop] mixed (ih) (by kernel_rfl) ?_
    show Yes _
    repeat' apply And.intro
    (all_goals first | rfl | assumption | trivial | omega | (simp [-List.getD_eq_getElem?_getD] <;> omega) | (simp (disch := omega) only [w64, wu64] <;> omega) | (simp (disch := omega) [-List.getD_eq_getElem?_getD, List.getD_cons_zero, List.getD_cons_succ, kCast_self, dfl_pair, dfl_int, w64, wu64] <;> omega) | (rw [Bool.eq_iff_iff]; simp (disch := omega) [-List.getD_eq_getElem?_getD, List.getD_cons_zero, List.getD_cons_succ, kCast_self, dfl_pair, dfl_int, w64, wu64] <;> omega) | (simp_all [-List.getD_eq_getElem?_getD] <;> omega))
  refine Goods.turn (α := Unit) (fun _ => mid) fun B ρ w hH => ?_
  obtain ⟨f1, f2⟩ := nil_fam w c.cl.length
  obtain ⟨r1, b1⟩ := hH.emptyG f1 f2
  have m1 := upd_mono hH ⟨0, 0, 0, 0⟩
  obtain ⟨ρ2, r2, m2, b2⟩ := r1.wrapG (i := 5) (r := 17) rfl rfl (by simp [nils]; omega)
  obtain ⟨r3, b3⟩ := r2.emptyG f1 f2
  have m3 := upd_mono r2 ⟨0, 0, 0, 0⟩
  obtain ⟨ρ4, r4, m4, b4⟩ := r3.wrapG (i := 6) (r := 19) rfl rfl (by simp [nils]; omega)
  have e : (List.replicate c.cl.length lpN).map lpX = List.replicate c.cl.length (pileX psN) := by rw [List.map_replicate]; rfl
  obtain ⟨r5, b5⟩ := hp_eq (os := [.tab own (.int .i64) c.cl, .tab own2 ActK ac, cnfC c, stkC 7 c, stkC 10 c, .link 18, .link 20, clsO c, .link 13, .link 14, clsO c, .link 15, .link 16, .big (FQ ((List.replicate c.cl.length psN).map pileX)), .big (FQ ((List.replicate c.cl.length psN).map mapX)), .big (FQ ((List.replicate c.cl.length psN).map pileX)), .big (FQ ((List.replicate c.cl.length psN).map mapX)), .gone, .big (FQ ((List.replicate c.cl.length lpN).map lpX)), .gone, .big (FQ ((List.replicate c.cl.length lpN).map lpX))]) rfl (fun i hi => match i, hi with
    | 0, _ => rfl | 1, _ => rfl | 2, _ => rfl | 3, _ => rfl | 4, _ => rfl | 5, _ => rfl | 6, _ => rfl | 7, _ => rfl | 8, _ => rfl | 9, _ => rfl | 10, _ => rfl | 11, _ => rfl | 12, _ => rfl | 13, _ => rfl | 14, _ => rfl | 15, _ => rfl | 16, _ => rfl | 17, _ => rfl
    | 18, _ => by show _ = AObj.big (FQ ((List.replicate c.cl.length lpN).map lpX)); rw [e]; rfl
    | 19, _ => rfl
    | 20, _ => by show _ = AObj.big (FQ ((List.replicate c.cl.length lpN).map lpX)); rw [e]; rfl
    | n + 21, h => absurd h (by simp)) r4
  exact ⟨(), ρ4, r5, fun q l hq => m4 q l (m3 q l (m2 q l (m1 q l hq))), fun b hb => b1 b (b2 b (b3 b (b4 b (b5 b hb))))⟩
set_option maxHeartbeats 8000000 in
theorem StockClasses_tri (own own2 : Bool) (c : Cnf) (hcl : c.cl.length ≤ 9223372036854775807) (ac : List ActT) (hal : ac.length ≤ 9223372036854775807) (ha : ∀ i, i < ac.length → 0 ≤ (ac.getD i (dfl ActK)).2.2.2 ∧ (ac.getD i (dfl ActK)).2.2.2 ≤ 18446744073709551615) (cls : Int) : Tri En 6 [cnfA 0 c, .slice 1 0 ac.length, .int .i64 cls] [.tab own (.int .i64) c.cl, .tab own2 ActK ac] (.bl true) [.gone, .gone] := by
  refine Tri.of Tryd.func6 rfl Tryd.call6 rfl ?_
  by_cases h : c.Ok
  · have hy := may_yes own c h
    by_cases hb : 100 < ac.length
    · refine Goods.fin 2000 [.c (.of speaks_tri), .c (.of hy), .s 21 (some true) true true] mixed Tryd.func6 ?_
      show Yes _
      repeat' apply And.intro
      (all_goals first | rfl | assumption | trivial | omega | (simp [-List.getD_eq_getElem?_getD] <;> omega) | (simp (disch := omega) only [w64, wu64] <;> omega) | (simp (disch := omega) [-List.getD_eq_getElem?_getD, List.getD_cons_zero, List.getD_cons_succ, kCast_self, dfl_pair, dfl_int, w64, wu64] <;> omega) | (rw [Bool.eq_iff_iff]; simp (disch := omega) [-List.getD_eq_getElem?_getD, List.getD_cons_zero, List.getD_cons_succ, kCast_self, dfl_pair, dfl_int, w64, wu64] <;> omega) | (simp_all [-List.getD_eq_getElem?_getD] <;> omega))
    · have l1 := h.l1
      have s0 := h.s0
      obtain ⟨S, hS⟩ : ∃ S : Nat, (S : Int) = c.s := ⟨c.s.toNat, by omega⟩
      have hn := new_B own c h
      have ih := sc_start own own2 c h S hS ac (by omega) ha cls
      refine Goods.to 2000 [.c (.of speaks_tri), .c (.of hy), .s 21 (some false) true true, .k 24 (.of hn), .k 26 (.of hn), .l, .stop] mixed (ih) (by kernel_rfl) ?_
      show Yes _
      repeat' apply And.intro
      (all_goals first | rfl | assumption | trivial | omega | (simp [-List.getD_eq_getElem?_getD] <;> omega) | (simp (disch := omega) only [w64, wu64] <;> omega) | (simp (disch := omega) [-List.getD_eq_getElem?_getD, List.getD_cons_zero, List.getD_cons_succ, kCast_self, dfl_pair, dfl_int, w64, wu64] <;> omega) | (rw [Bool.eq_iff_iff]; simp (disch := omega) [-List.getD_eq_getElem?_getD, List.getD_cons_zero, List.getD_cons_succ, kCast_self, dfl_pair, dfl_int, w64, wu64] <;> omega) | (simp_all [-List.getD_eq_getElem?_getD] <;> omega))
  · have hy := may_no own c hcl h
    refine Goods.fin 2000 [.c (.of speaks_tri), .c (.of hy)] mixed Tryd.func6 ?_
    show Yes _
    repeat' apply And.intro
    (all_goals first | rfl | assumption | trivial | omega | (simp [-List.getD_eq_getElem?_getD] <;> omega) | (simp (disch := omega) only [w64, wu64] <;> omega) | (simp (disch := omega) [-List.getD_eq_getElem?_getD, List.getD_cons_zero, List.getD_cons_succ, kCast_self, dfl_pair, dfl_int, w64, wu64] <;> omega) | (rw [Bool.eq_iff_iff]; simp (disch := omega) [-List.getD_eq_getElem?_getD, List.getD_cons_zero, List.getD_cons_succ, kCast_self, dfl_pair, dfl_int, w64, wu64] <;> omega) | (simp_all [-List.getD_eq_getElem?_getD] <;> omega))
theorem StockClasses_law (d : dats ([(true, (.pair (.int .i64) (.pair (.int .i64) (.pair (.int .i64) (.pair (.int .i64) (.pair (.slice (.int .i64)) .unit)))))), (false, (.slice (.pair (.int .i64) (.pair (.int .i64) (.pair (.pair (.int .i64) (.pair (.int .i64) .unit)) (.pair (.int .u64) .unit)))))), (false, (.int .i64))] : List (Bool × Sh))) (hd : datsOk ([(true, (.pair (.int .i64) (.pair (.int .i64) (.pair (.int .i64) (.pair (.int .i64) (.pair (.slice (.int .i64)) .unit)))))), (false, (.slice (.pair (.int .i64) (.pair (.int .i64) (.pair (.pair (.int .i64) (.pair (.int .i64) .unit)) (.pair (.int .u64) .unit)))))), (false, (.int .i64))] : List (Bool × Sh)) d) : Tri En 6 (argsOf ([(true, (.pair (.int .i64) (.pair (.int .i64) (.pair (.int .i64) (.pair (.int .i64) (.pair (.slice (.int .i64)) .unit)))))), (false, (.slice (.pair (.int .i64) (.pair (.int .i64) (.pair (.pair (.int .i64) (.pair (.int .i64) .unit)) (.pair (.int .u64) .unit)))))), (false, (.int .i64))] : List (Bool × Sh)) d 0) (objsOf ([(true, (.pair (.int .i64) (.pair (.int .i64) (.pair (.int .i64) (.pair (.int .i64) (.pair (.slice (.int .i64)) .unit)))))), (false, (.slice (.pair (.int .i64) (.pair (.int .i64) (.pair (.pair (.int .i64) (.pair (.int .i64) .unit)) (.pair (.int .u64) .unit)))))), (false, (.int .i64))] : List (Bool × Sh)) d) (.bl true) (gones (cnts ([(true, (.pair (.int .i64) (.pair (.int .i64) (.pair (.int .i64) (.pair (.int .i64) (.pair (.slice (.int .i64)) .unit)))))), (false, (.slice (.pair (.int .i64) (.pair (.int .i64) (.pair (.pair (.int .i64) (.pair (.int .i64) .unit)) (.pair (.int .u64) .unit)))))), (false, (.int .i64))] : List (Bool × Sh)))) := by
  obtain ⟨⟨w, s, b, t, cl, _⟩, l, k, _⟩ := d
  obtain ⟨⟨h0, h1, h2, h3, ⟨h4, _⟩, _⟩, ⟨h6, h7⟩, _⟩ := hd
  exact StockClasses_tri false false ⟨w, s, b, t, cl⟩ (maxLen_le h4) l (maxLen_le h6) (act12_bounds h7) k
end Go.Proofs.YthlpfafmiakfdaaDoor.E
