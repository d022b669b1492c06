/- WholeFlow: the law's contract. -/
import Derived.Test.YtcicfbccdgkfhaaDoorLTm
namespace Go.Proofs.YtcicfbccdgkfhaaDoor.E
set_option linter.unusedSimpArgs false
set_option linter.unusedVariables false
open Go
set_option maxRecDepth 100000
/-- A step that gives, where nothing is out. -/
theorem wf_give0 (own own2 : Bool) (c : Cnf) (h : c.Ok) (k S : Nat) (hk : k < c.cl.length) (hS : (S : Int) = c.s) (ac : List Bool) (hac : ac.length ≤ 400) (f : SupF) (s : PS) (ys o : List Blk) (off i : Nat) (hi : i < ac.length) (ha : ac.getD i false = false) (hW : WInv c k S f s ys o off 0 i)
    (next : ∀ s' ys' o' off' n', WInv c k S f s' ys' o' off' n' (i + 1) → Goods (gWf own own2 c ac) (wf0 own own2 c k S ac f s' ys' off' n' (i + 1))) : Goods (gWf own own2 c ac) (wf0 own own2 c k S ac f s ys off 0 i) := by
  have l1 := h.l1
  have b1 := h.b1
  have two := hW.two
  have h1 := slen_tri c k rawT rawT s.zs s.m s.cl s.es l1 hk
  have hW' : WInv c k S f s ys o off 0 (i + 1) := ⟨hW.good, hW.flow, hW.two, hW.out, hW.len, hW.fit, by omega⟩
  have ih := wf_next own own2 c h k S hk hS ac hac f _ _ _ off 0 i hi hW' (next _ _ _ off 0 hW')
  refine Goods.to 2000 [.b true, .b false, .b false, .c (.of h1), .l, .stop] mixed (ih) (by kernel_rfl) ?_
  show Yes _
  repeat' apply And.intro
  (all_goals first | rfl | assumption | trivial | omega | (simp [-List.getD_eq_getElem?_getD, ha] <;> omega) | (simp (disch := omega) only [w64, wu64] <;> omega) | (simp (disch := omega) [-List.getD_eq_getElem?_getD, List.getD_cons_zero, List.getD_cons_succ, kCast_self, dfl_pair, dfl_int, w64, wu64, ha] <;> omega) | (rw [Bool.eq_iff_iff]; simp (disch := omega) [-List.getD_eq_getElem?_getD, List.getD_cons_zero, List.getD_cons_succ, kCast_self, dfl_pair, dfl_int, w64, wu64, ha] <;> omega) | (simp_all [-List.getD_eq_getElem?_getD] <;> omega))
set_option maxHeartbeats 4000000 in
/-- A step that gives one block. -/
theorem wf_give (own own2 : Bool) (c : Cnf) (h : c.Ok) (k S : Nat) (hk : k < c.cl.length) (hS : (S : Int) = c.s) (ac : List Bool) (hac : ac.length ≤ 400) (f : SupF) (s : PS) (ys o : List Blk) (b : Blk) (off n i : Nat) (hi : i < ac.length) (ha : ac.getD i false = false) (hW : WInv c k S f s ys (b :: o) off (n + 1) i)
    (next : ∀ f' s' ys' o' off' n', WInv c k S f' s' ys' o' off' n' (i + 1) → Goods (gWf own own2 c ac) (wf0 own own2 c k S ac f' s' ys' off' n' (i + 1))) : Goods (gWf own own2 c ac) (wf0 own own2 c k S ac f s ys off (n + 1) i) := by
  have l1 := h.l1
  have b1 := h.b1
  have b0 := h.b0
  have s1 := h.s1
  have two := hW.two
  have hfit := hW.fit
  have hfew := hW.few
  have hlen : o.length = n := by have := hW.len; simpa using this
  have hin : inB c k b := hW.flow.inb b (by simp)
  have hnot : b ∉ s.pile := fun hh => (List.nodup_append.1 hW.flow.nodup).2.2 b hh b (by simp) rfl
  have hat : bAt ys off = b := by
    have e1 : (ys.drop off)[0]? = some b := by rw [hW.out]; rfl
    rw [List.getElem?_drop, Nat.add_zero] at e1
    simp [bAt, List.getD, e1]
  have hdrop : ys.drop (off + 1) = o := by rw [← List.drop_drop, hW.out]; rfl
  have h1 := push_tri c h k rawT rawT s b hk hW.good.le (by omega)
  have e := pushOk_eq (c := c) (k := k) hW.good b
  rw [e, decide_eq_true ⟨hin, hnot⟩] at h1
  obtain ⟨g1, g2⟩ := pushS_good (c := c) (k := k) hW.good b
  have g3 : (pushS c k s b).pile = s.pile ++ [b] := by rw [g2]; exact if_pos ⟨hin, hnot⟩
  have hmm := pushS_m (c := c) (k := k) (s := s) (b := b)
  have hF : Flow c k S f ((pushS c k s b).pile ++ o) := by
    have := hW.flow
    rw [g3, List.append_assoc]; exact this
  have g4 : bAt ys (0 + off) = b := by rw [Nat.zero_add]; exact hat
  generalize pushS c k s b = s2 at *
  by_cases h2 : (s2.m : Int) ≤ 2 * c.b
  · have h3 := spill_no c h k hk rawT rawT s2 (by omega) h2
    have h4 := slen_tri c k rawT rawT s2.zs s2.m s2.cl s2.es l1 hk
    have hW' : WInv c k S f s2 ys o (off + 1) n (i + 1) := ⟨g1, hF, h2, hdrop, hlen, by omega, by omega⟩
    have ih := wf_next own own2 c h k S hk hS ac hac f _ _ _ (off + 1) n i hi hW' (next _ _ _ _ (off + 1) n hW')
    refine Goods.to 2000 [.b true, .b false, .b true, .c (.of h1), .c (.of h3), .c (.of h4), .l, .stop] mixed (ih) (by kernel_rfl) ?_
    show Yes _
    repeat' apply And.intro
    (all_goals first | rfl | assumption | trivial | omega | (simp [-List.getD_eq_getElem?_getD, ha, g4, hat] <;> omega) | (simp (disch := omega) only [w64, wu64] <;> omega) | (simp (disch := omega) [-List.getD_eq_getElem?_getD, List.getD_cons_zero, List.getD_cons_succ, kCast_self, dfl_pair, dfl_int, w64, wu64, ha, g4, hat] <;> omega) | (rw [Bool.eq_iff_iff]; simp (disch := omega) [-List.getD_eq_getElem?_getD, List.getD_cons_zero, List.getD_cons_succ, kCast_self, dfl_pair, dfl_int, w64, wu64, ha, g4, hat] <;> omega) | (simp_all [-List.getD_eq_getElem?_getD] <;> omega))
  · have hl2 := g1.len
    have hne : s2.pile ≠ [] := fun h0 => by rw [h0] at hl2; simp at hl2; omega
    obtain ⟨sup, hsup⟩ := best_ex hne
    have h3 := spill_yes c h k hk rawT rawT s2 sup g1.le (by omega) (by omega) hsup (fun b hb => (hF.inb b (List.mem_append_left _ hb)).1)
    obtain ⟨b', hb', hbs⟩ := numB_pos.1 hsup.some
    obtain ⟨x, y, rfl, q1, q2, q3⟩ := inB_64 h (hF.inb b' (List.mem_append_left _ hb'))
    simp only at hbs
    subst hbs
    have hxS : x < S := by omega
    obtain ⟨m, f1, f2, f3, f4, f5⟩ := hF.back h hS hxS (M := spillM s2 (x : Int)) (fun z hz => spillM_bit s2 (x : Int) hz) (spillM_lt s2 (x : Int)) ⟨y, q3, hb'⟩
    have hMlt := spillM_lt s2 (x : Int)
    have hfl : TFl true c S f (x : Int) (spillM s2 (x : Int)) (opA 1 0) (updS f x (if m ||| spillM s2 (x : Int) = allN c k then (0, 0, 0) else (1, k, m ||| spillM s2 (x : Int)))) := by
      have hat := at_1 true S (by omega) f x hxS k m (by omega) f1
      by_cases he : m ||| spillM s2 (x : Int) = allN c k
      · rw [if_pos he]
        exact flush_all true c h S (by omega) f x k m (spillM s2 (x : Int)) hxS (by omega) hMlt f2 f4 f3 he hat
      · rw [if_neg he]
        exact flush_some true c h S (by omega) f x k m (spillM s2 (x : Int)) hxS (by omega) hMlt f2 f4 f3 he hat
    have hap := apply_2 true c S f _ x (spillM s2 (x : Int)) (by omega) 1 0 hfl
    have har := ask_flush x (spillM s2 (x : Int)) (by omega)
    have hgood := spill_good g1 (x : Int)
    have hpile := spill_pile s2 (x : Int)
    have hless := keep_less hsup.some
    have hl3 := hgood.len
    rw [hpile] at hl3
    rw [← hpile] at f5
    generalize updS f x (if m ||| spillM s2 (x : Int) = allN c k then (0, 0, 0) else (1, k, m ||| spillM s2 (x : Int))) = f' at *
    generalize spillM s2 (x : Int) = M at *
    generalize spillS s2 (x : Int) = s3 at *
    have h5 : (s3.m : Int) ≤ 2 * c.b := by omega
    have h4 := slen_tri c k rawT rawT s3.zs s3.m s3.cl s3.es l1 hk
    have hW' : WInv c k S f' s3 ys o (off + 1) n (i + 1) := ⟨hgood, f5, h5, hdrop, hlen, by omega, by omega⟩
    have ih := wf_next own own2 c h k S hk hS ac hac f' _ _ _ (off + 1) n i hi hW' (next _ _ _ _ (off + 1) n hW')
    generalize askN 2 x = w at *
    refine Goods.to 2000 [.b true, .b false, .b true, .c (.of h1), .c (.of h3), .k 117 (.of har), .k 118 (.of hap), .s 120 (some false) true true, .c (.of h4), .l, .stop] mixed (ih) (by kernel_rfl) ?_
    show Yes _
    repeat' apply And.intro
    (all_goals first | rfl | assumption | trivial | omega | (simp [-List.getD_eq_getElem?_getD, ha, g4, hat] <;> omega) | (simp (disch := omega) only [w64, wu64] <;> omega) | (simp (disch := omega) [-List.getD_eq_getElem?_getD, List.getD_cons_zero, List.getD_cons_succ, kCast_self, dfl_pair, dfl_int, w64, wu64, ha, g4, hat] <;> omega) | (rw [Bool.eq_iff_iff]; simp (disch := omega) [-List.getD_eq_getElem?_getD, List.getD_cons_zero, List.getD_cons_succ, kCast_self, dfl_pair, dfl_int, w64, wu64, ha, g4, hat] <;> omega) | (simp_all [-List.getD_eq_getElem?_getD] <;> omega))
theorem wf_0 (own own2 : Bool) (c : Cnf) (h : c.Ok) (k S : Nat) (hk : k < c.cl.length) (hS : (S : Int) = c.s) (ac : List Bool) (hac : ac.length ≤ 400) : ∀ (r i : Nat) (f : SupF) (s : PS) (ys o : List Blk) (off n : Nat), i + r = ac.length → WInv c k S f s ys o off n i → Goods (gWf own own2 c ac) (wf0 own own2 c k S ac f s ys off n i)
  | 0, i, f, s, ys, o, off, n, hi, hW => by
    refine Goods.fin 2000 [.b false] mixed Tryd.func5 ?_
    show Yes _
    repeat' apply And.intro
    (all_goals first | rfl | assumption | trivial | omega | (simp [-List.getD_eq_getElem?_getD] <;> omega) | (simp (disch := omega) only [w64, wu64] <;> omega) | (simp (disch := omega) [-List.getD_eq_getElem?_getD, List.getD_cons_zero, List.getD_cons_succ, kCast_self, dfl_pair, dfl_int, w64, wu64] <;> omega) | (rw [Bool.eq_iff_iff]; simp (disch := omega) [-List.getD_eq_getElem?_getD, List.getD_cons_zero, List.getD_cons_succ, kCast_self, dfl_pair, dfl_int, w64, wu64] <;> omega) | (simp_all [-List.getD_eq_getElem?_getD] <;> omega))
  | r + 1, i, f, s, ys, o, off, n, hi, hW => by
    have next := fun f s ys o off n hW => wf_0 own own2 c h k S hk hS ac hac r (i + 1) f s ys o off n (by omega) hW
    have hil : i < ac.length := by omega
    cases ha : ac.getD i false with
    | true =>
      obtain ⟨zs, m, cl, es⟩ := s
      cases m with
      | zero =>
        rcases ref_cases c S f k with hr | ⟨x, m, hr, hx, hm⟩
        · exact wf_dry own own2 c h k S hk hS ac hac f zs cl es ys o off n i hil ha hW hr (next f)
        · exact wf_refill own own2 c h k S hk hS ac hac f zs cl es ys o off n i hil ha hW x m hr hx hm next
      | succ q => exact wf_pop own own2 c h k S hk hS ac hac f zs q cl es ys o off n i hil ha hW (next f)
    | false =>
      cases o with
      | nil =>
        obtain rfl : n = 0 := hW.len.symm
        exact wf_give0 own own2 c h k S hk hS ac hac f s ys [] off i hil ha hW (next f)
      | cons b o =>
        obtain ⟨n', rfl⟩ : ∃ n', n = n' + 1 := ⟨o.length, by rw [← hW.len]; rfl⟩
        exact wf_give own own2 c h k S hk hS ac hac f s ys o b off n' i hil ha hW next
def sq0 : Cnf := ⟨1, 1, 1, 0, [16]⟩
theorem sq0_ok : sq0.Ok := ⟨⟨by decide, by decide, by decide, by decide, by decide, by decide, by decide, by decide⟩, by decide, by decide, by decide⟩
def ps0 : PS := ⟨[], 0, 0, []⟩
theorem ps0_good : ps0.Good := ⟨Nat.le_refl _, There.nil⟩
theorem hW_nought (n : Nat) : List.replicate (2 * n) 0 = hW n fun _ => (0, 0, 0) := by
  rw [tabW_zero, hW]
  exact tabW_congr fun i _ => by
    simp only [hw_zero]
    split <;> rfl
theorem wf_start (own own2 : Bool) (c : Cnf) (h : c.Ok) (k S : Nat) (hk : k < c.cl.length) (hS : (S : Int) = c.s) (ac : List Bool) (hac : ac.length ≤ 400) :
    Goods (gWf own own2 c ac) ⟨.none, lp Tryd.f5 0, [(3, .ptr 2 0 0), (7, .ptr 3 0 0), (8, .ptr 4 0 0), (9, .int .i64 k), (10, .slice 5 0 (2 * S))] ++ (11, .nilslice) :: [(56, .slice 1 0 ac.length), (57, .int .i64 ac.length), (58, .int .i64 (0 : Nat))], hp [.tab own (.int .i64) c.cl, .tab own2 .bool ac, cnfC c, stkC 7 c, hrtC 6 c, .tab true (.int .u64) (hW S fun _ => (0, 0, 0)), clsO c, clsO c, .mix k rawT (.slice 10 0 0), .mix k rawT (.map 11), .tab true BlkK [], .map BlkK .unit 0 []]⟩ := by
  refine Goods.nilTmp BlkK ?_
  have ih := wf_0 own own2 c h k S hk hS ac hac ac.length 0 (fun _ => (0, 0, 0)) ps0 [] [] 0 0 (by omega) ⟨ps0_good, Flow.zero c k S, by have := h.b0; show (0 : Int) ≤ 2 * c.b; omega, rfl, rfl, rfl, Nat.le_refl _⟩
  refine Goods.to 2000 [.stop] mixed (ih) (by kernel_rfl) ?_
  show Yes _
  repeat' apply And.intro
  (all_goals first | rfl | assumption | trivial | omega | (simp [-List.getD_eq_getElem?_getD] <;> omega) | (simp (disch := omega) only [w64, wu64] <;> omega) | (simp (disch := omega) [-List.getD_eq_getElem?_getD, List.getD_cons_zero, List.getD_cons_succ, kCast_self, dfl_pair, dfl_int, w64, wu64] <;> omega) | (rw [Bool.eq_iff_iff]; simp (disch := omega) [-List.getD_eq_getElem?_getD, List.getD_cons_zero, List.getD_cons_succ, kCast_self, dfl_pair, dfl_int, w64, wu64] <;> omega) | (simp_all [-List.getD_eq_getElem?_getD] <;> omega))
set_option maxHeartbeats 4000000 in
theorem WholeFlow_tri (own own2 : Bool) (c : Cnf) (hcl : c.cl.length ≤ 9223372036854775807) (u : Nat) (hu : u < 256) (ac : List Bool) (hal : ac.length ≤ 9223372036854775807) : Tri En 5 [cnfA 0 c, .int .u8 u, .slice 1 0 ac.length] [.tab own (.int .i64) c.cl, .tab own2 .bool ac] (.bl true) [.gone, .gone] := by
  have n0 := new_tri true sq0 sq0_ok 0 (by decide)
  have p0 := push_tri sq0 sq0_ok 0 rawT rawT ps0 (0, 0) (by decide) (by decide) (by decide)
  rw [show pushOk sq0 0 ps0 (0, 0) = true by decide, show pushS sq0 0 ps0 (0, 0) = ⟨[(0, 0)], 1, 1, [((0, 0), (), 0)]⟩ by rfl] at p0
  refine Tri.of Tryd.func5 rfl Tryd.call5 rfl ?_
  by_cases h : c.Ok
  · have hy := may_yes own c h
    by_cases hb : 400 < ac.length
    · refine Goods.fin 2000 [.c (.of n0), .c (.of p0), .c (.of hy), .s 41 (some true) true true] mixed Tryd.func5 ?_
      show Yes _
      repeat' apply And.intro
      (all_goals first | rfl | assumption | trivial | omega | (simp [-List.getD_eq_getElem?_getD] <;> omega) | (simp (disch := omega) only [w64, wu64] <;> omega) | (simp (disch := omega) [-List.getD_eq_getElem?_getD, List.getD_cons_zero, List.getD_cons_succ, kCast_self, dfl_pair, dfl_int, w64, wu64] <;> omega) | (rw [Bool.eq_iff_iff]; simp (disch := omega) [-List.getD_eq_getElem?_getD, List.getD_cons_zero, List.getD_cons_succ, kCast_self, dfl_pair, dfl_int, w64, wu64] <;> omega) | (simp_all [-List.getD_eq_getElem?_getD] <;> omega))
    · have l1 := h.l1
      have l0 := h.l0
      have s0 := h.s0
      have s1 := h.s1
      obtain ⟨S, hS⟩ : ∃ S : Nat, (S : Int) = c.s := ⟨c.s.toNat, by omega⟩
      obtain ⟨k, hk⟩ : ∃ k, k = u % c.cl.length := ⟨_, rfl⟩
      have hkl : k < c.cl.length := by rw [hk]; exact Nat.mod_lt _ (by omega)
      have g0 : Int.tmod (IntKind.i64.wrap (u : Int)) (c.cl.length : Int) = (k : Int) := by rw [w64 (by omega) (by omega), hk]; rfl
      have hn := heart_new own c l1
      have hw := heart_words true c h S hS
      have ht := new_tri own c h k hkl
      have ih := wf_start own own2 c h k S hkl hS ac (by omega)
      have g1 := hW_nought S
      generalize hW S (fun _ => (0, 0, 0)) = W at *
      refine Goods.to 2000 [.c (.of n0), .c (.of p0), .c (.of hy), .s 41 (some false) true true, .k 44 (.of hn), .c (.of hw), .c (.of ht), .l, .stop] mixed (ih) (by kernel_rfl) ?_
      show Yes _
      repeat' apply And.intro
      all_goals try first | exact g0 | exact g1
      (all_goals first | rfl | assumption | trivial | omega | (simp [-List.getD_eq_getElem?_getD] <;> omega) | (simp (disch := omega) only [w64, wu64] <;> omega) | (simp (disch := omega) [-List.getD_eq_getElem?_getD, List.getD_cons_zero, List.getD_cons_succ, kCast_self, dfl_pair, dfl_int, w64, wu64] <;> omega) | (rw [Bool.eq_iff_iff]; simp (disch := omega) [-List.getD_eq_getElem?_getD, List.getD_cons_zero, List.getD_cons_succ, kCast_self, dfl_pair, dfl_int, w64, wu64] <;> omega) | (simp_all [-List.getD_eq_getElem?_getD] <;> omega))
  · have hy := may_no own c hcl h
    refine Goods.fin 2000 [.c (.of n0), .c (.of p0), .c (.of hy)] mixed Tryd.func5 ?_
    show Yes _
    repeat' apply And.intro
    (all_goals first | rfl | assumption | trivial | omega | (simp [-List.getD_eq_getElem?_getD] <;> omega) | (simp (disch := omega) only [w64, wu64] <;> omega) | (simp (disch := omega) [-List.getD_eq_getElem?_getD, List.getD_cons_zero, List.getD_cons_succ, kCast_self, dfl_pair, dfl_int, w64, wu64] <;> omega) | (rw [Bool.eq_iff_iff]; simp (disch := omega) [-List.getD_eq_getElem?_getD, List.getD_cons_zero, List.getD_cons_succ, kCast_self, dfl_pair, dfl_int, w64, wu64] <;> omega) | (simp_all [-List.getD_eq_getElem?_getD] <;> omega))
theorem WholeFlow_law (d : dats ([(true, (.pair (.int .i64) (.pair (.int .i64) (.pair (.int .i64) (.pair (.int .i64) (.pair (.slice (.int .i64)) .unit)))))), (false, (.int .u8)), (false, (.slice .bool))] : List (Bool × Sh))) (hd : datsOk ([(true, (.pair (.int .i64) (.pair (.int .i64) (.pair (.int .i64) (.pair (.int .i64) (.pair (.slice (.int .i64)) .unit)))))), (false, (.int .u8)), (false, (.slice .bool))] : List (Bool × Sh)) d) : Tri En 5 (argsOf ([(true, (.pair (.int .i64) (.pair (.int .i64) (.pair (.int .i64) (.pair (.int .i64) (.pair (.slice (.int .i64)) .unit)))))), (false, (.int .u8)), (false, (.slice .bool))] : List (Bool × Sh)) d 0) (objsOf ([(true, (.pair (.int .i64) (.pair (.int .i64) (.pair (.int .i64) (.pair (.int .i64) (.pair (.slice (.int .i64)) .unit)))))), (false, (.int .u8)), (false, (.slice .bool))] : List (Bool × Sh)) d) (.bl true) (gones (cnts ([(true, (.pair (.int .i64) (.pair (.int .i64) (.pair (.int .i64) (.pair (.int .i64) (.pair (.slice (.int .i64)) .unit)))))), (false, (.int .u8)), (false, (.slice .bool))] : List (Bool × Sh)))) := by
  obtain ⟨⟨w, s, b, t, cl, _⟩, u, ac, _⟩ := d
  obtain ⟨⟨h0, h1, h2, h3, ⟨h4, _⟩, _⟩, h5, ⟨h6, h7⟩, _⟩ := hd
  obtain ⟨u, rfl, hu⟩ := wf_u8 h5
  exact WholeFlow_tri false false ⟨w, s, b, t, cl⟩ (maxLen_le h4) u (Nat.lt_succ_of_le hu) ac (maxLen_le h6)
end Go.Proofs.YtcicfbccdgkfhaaDoor.E
