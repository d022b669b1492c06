/- NoteDoes, NoteOwn: the laws' contracts. -/
import Derived.Test.YtkeedpjdadgaeaaPnoter
namespace Go.Proofs.Ytkeedpjdadgaeaa.E
open Go
set_option maxRecDepth 100000

abbrev actK : K := .pair (.int .i64) (.pair (.int .i64) (.pair (.int .i64) (.pair (.pair (.int .i64) (.int .i64)) (.pair (.int .i64) (.int .i64)))))
/-- A call: its kind, worker, step, what is asked, what is answered. -/
abbrev ActT := Int × Int × Int × (Int × Int) × (Int × Int)
def actD : ActT := (0, 0, 0, (0, 0), (0, 0))
def actC (a : ActT) : AObj := .cells (enc actK a)
theorem speaks_tri : Tri En 7 [] [] (.bl true) [] := by
  have h1 := begin_yes book0 3 1 5 2 (by decide) rfl
  obtain ⟨b1, hb1⟩ : ∃ b, b = beginB book0 3 1 5 2 := ⟨_, rfl⟩
  have hb1' : b1 = ⟨[(3, (1, 5), (0, 0), 0, 2, 0, 0)], true, 1, [(3, 0, 0)]⟩ := hb1
  rw [← hb1, hb1'] at h1
  have h2 := begin_no ⟨[(3, (1, 5), (0, 0), 0, 2, 0, 0)], true, 1, [(3, 0, 0)]⟩ 3 0 0 3 0 (by decide) rfl
  have h3 := step_yes ⟨[(3, (1, 5), (0, 0), 0, 2, 0, 0)], true, 1, [(3, 0, 0)]⟩ 3 0 (by decide) rfl
  have e3 : setB ⟨[(3, (1, 5), (0, 0), 0, 2, 0, 0)], true, 1, [(3, 0, 0)]⟩ 0 (stepE (evAt ⟨[(3, (1, 5), (0, 0), 0, 2, 0, 0)], true, 1, [(3, 0, 0)]⟩ 0)) = ⟨[(3, (1, 5), (0, 0), 1, 2, 0, 0)], true, 1, [(3, 0, 0)]⟩ := by
    unfold setB stepE evAt; simp [w64]
  rw [e3] at h3
  have h4 := count_yes ⟨[(3, (1, 5), (0, 0), 1, 2, 0, 0)], true, 1, [(3, 0, 0)]⟩ 3 0 9 4 0 (by decide) rfl (by decide)
  have h5 := end_yes ⟨[(3, (1, 5), (0, 9), 1, 2, 4, 0)], true, 1, [(3, 0, 0)]⟩ 3 0 9 4 0 (by decide) rfl
  have h6 := events_tri ⟨[(3, (1, 5), (0, 9), 1, 2, 4, 4)], true, 1, []⟩ (by decide)
  refine Tri.of Try.func7 rfl Try.call7 rfl ?_
  refine Goods.fin 2000 [.c (.of h1), .c (.of h2), .c (.of h3), .c (.of h4), .c (.of h5), .c (.of h6), .s 35 (some true) true true] mixed Try.func7 ?_
  show Yes _
  repeat' apply And.intro
  (all_goals first | rfl | assumption | trivial | omega | (simp [-List.getD_eq_getElem?_getD] <;> omega) | (simp (disch := omega) only [w64, wu64] <;> omega) | (simp (disch := omega) [-List.getD_eq_getElem?_getD, List.getD_cons_zero, List.getD_cons_succ, kCast_self, dfl_pair, dfl_int, w64, wu64] <;> omega) | (rw [Bool.eq_iff_iff]; simp (disch := omega) [-List.getD_eq_getElem?_getD, List.getD_cons_zero, List.getD_cons_succ, kCast_self, dfl_pair, dfl_int, w64, wu64] <;> omega) | (simp_all [-List.getD_eq_getElem?_getD] <;> omega))
noncomputable abbrev gSame (o1 o2 : Bool) (l : List EvT) : Frm := ⟨En, 10, Try.f10.ntmps, [.tab o1 evK l, .tab o2 evK l], .bl true, [.tab o1 evK l, .tab o2 evK l]⟩
theorem same_0 (o1 o2 : Bool) (l : List EvT) (hl : l.length < 1000000) : ∀ (j k : Nat), k + j = l.length → Goods (gSame o1 o2 l) ⟨.none, lp Try.f10 0, [(0, .slice 0 0 l.length), (1, .slice 1 0 l.length), (11, .slice 0 0 l.length), (12, .int .i64 l.length), (13, .int .i64 k)], hp [.tab o1 evK l, .tab o2 evK l]⟩
  | 0, k, h => by
    refine Goods.fin 2000 [.b false] mixed Try.func10 ?_
    show Yes _
    repeat' apply And.intro
    (all_goals first | rfl | assumption | trivial | omega | (simp [-List.getD_eq_getElem?_getD] <;> omega) | (simp (disch := omega) only [w64, wu64] <;> omega) | (simp (disch := omega) [-List.getD_eq_getElem?_getD, List.getD_cons_zero, List.getD_cons_succ, kCast_self, dfl_pair, dfl_int, w64, wu64] <;> omega) | (rw [Bool.eq_iff_iff]; simp (disch := omega) [-List.getD_eq_getElem?_getD, List.getD_cons_zero, List.getD_cons_succ, kCast_self, dfl_pair, dfl_int, w64, wu64] <;> omega) | (simp_all [-List.getD_eq_getElem?_getD] <;> omega))
  | j + 1, k, h => by
    have ih := same_0 o1 o2 l hl j (k + 1) (by omega)
    refine Goods.to 2000 [.b true, .b false, .l, .stop] mixed (ih) (by kernel_rfl) ?_
    show Yes _
    repeat' apply And.intro
    (all_goals first | rfl | assumption | trivial | omega | (simp [-List.getD_eq_getElem?_getD] <;> omega) | (simp (disch := omega) only [w64, wu64] <;> omega) | (simp (disch := omega) [-List.getD_eq_getElem?_getD, List.getD_cons_zero, List.getD_cons_succ, kCast_self, dfl_pair, dfl_int, w64, wu64] <;> omega) | (rw [Bool.eq_iff_iff]; simp (disch := omega) [-List.getD_eq_getElem?_getD, List.getD_cons_zero, List.getD_cons_succ, kCast_self, dfl_pair, dfl_int, w64, wu64] <;> omega) | (simp_all [-List.getD_eq_getElem?_getD] <;> omega))
theorem same_tri (o1 o2 : Bool) (l : List EvT) (hl : l.length < 1000000) : Tri En 10 [.slice 0 0 l.length, .slice 1 0 l.length] [.tab o1 evK l, .tab o2 evK l] (.bl true) [.tab o1 evK l, .tab o2 evK l] := by
  have ih := same_0 o1 o2 l hl l.length 0 (by omega)
  refine Tri.of Try.func10 rfl Try.call10 rfl ?_
  refine Goods.to 2000 [.b false, .l, .stop] mixed (ih) (by kernel_rfl) ?_
  show Yes _
  repeat' apply And.intro
  (all_goals first | rfl | assumption | trivial | omega | (simp [-List.getD_eq_getElem?_getD] <;> omega) | (simp (disch := omega) only [w64, wu64] <;> omega) | (simp (disch := omega) [-List.getD_eq_getElem?_getD, List.getD_cons_zero, List.getD_cons_succ, kCast_self, dfl_pair, dfl_int, w64, wu64] <;> omega) | (rw [Bool.eq_iff_iff]; simp (disch := omega) [-List.getD_eq_getElem?_getD, List.getD_cons_zero, List.getD_cons_succ, kCast_self, dfl_pair, dfl_int, w64, wu64] <;> omega) | (simp_all [-List.getD_eq_getElem?_getD] <;> omega))
theorem evNe_self (e : EvT) : (!(e.1 == e.1 && ((e.2.1.1 == e.2.1.1 && (e.2.1.2 == e.2.1.2 && true)) && ((e.2.2.1.1 == e.2.2.1.1 && (e.2.2.1.2 == e.2.2.1.2 && true)) && (e.2.2.2.1 == e.2.2.2.1 && (e.2.2.2.2.1 == e.2.2.2.2.1 && (e.2.2.2.2.2.1 == e.2.2.2.2.2.1 && (e.2.2.2.2.2.2 == e.2.2.2.2.2.2 && true)))))))) = false := by simp
/-! NoteDoes. -/
noncomputable abbrev gDoes (xs : List ActT) : Frm := ⟨En, 6, Try.f6.ntmps, [.tab false actK xs], .bl true, gones 1⟩
/-- What is looked at behind each call. -/
theorem does_rest (xs : List ActT) (b : BookS) (hb : BookOk b) (hn : b.evs.length < 1000) (k : Nat) (hk : k < 200) (a : ActT) (q : Bool)
    (next : Goods (gDoes xs) ⟨.none, lp Try.f6 0, [(0, .slice 0 0 xs.length), (3, .ptr 1 0 0), (4, .slice 4 0 b.evs.length), (17, .slice 0 0 xs.length), (18, .int .i64 xs.length), (19, .int .i64 (k + 1 : Nat))], hp [.tab false actK xs, bookC 2 3 b, bookT b, bookM b, .tab true evK b.evs]⟩) :
    Goods (gDoes xs) ⟨.none, rg Try.f6 25, [(0, .slice 0 0 xs.length), (3, .ptr 1 0 0), (4, .slice 4 0 b.evs.length), (6, .ptr 5 0 0), (7, .bl q), (8, .bl q), (17, .slice 0 0 xs.length), (18, .int .i64 xs.length), (19, .int .i64 k)], hp [.tab false actK xs, bookC 2 3 b, bookT b, bookM b, .tab true evK b.evs, actC a]⟩ := by
  have hf := find_tri true b.evs a.2.1 (by omega)
  by_cases h0 : 0 ≤ findI b.evs a.2.1
  · obtain ⟨i, hi, h1, h2, h3, h4⟩ := hb.yes h0
    rw [h1] at hf
    have ho := open_yes b a.2.1 i hi h2
    obtain ⟨evs, made, clock, es⟩ := b
    cases made
    · simp [getB] at h2
    cases q
    all_goals
      refine Goods.to 2000 [.c (.of ho), .c (.of hf), .s 117 (some false) true true, .s 127 (some false) true true, .l, .stop] mixed (next) (by kernel_rfl) ?_
      show Yes _
      repeat' apply And.intro
      all_goals (try exact evNe_self (evs.getD i evD))
      (all_goals first | rfl | assumption | trivial | omega | (simp [-List.getD_eq_getElem?_getD] <;> omega) | (simp (disch := omega) only [w64, wu64] <;> omega) | (simp (disch := omega) [-List.getD_eq_getElem?_getD, List.getD_cons_zero, List.getD_cons_succ, kCast_self, dfl_pair, dfl_int, w64, wu64] <;> omega) | (rw [Bool.eq_iff_iff]; simp (disch := omega) [-List.getD_eq_getElem?_getD, List.getD_cons_zero, List.getD_cons_succ, kCast_self, dfl_pair, dfl_int, w64, wu64] <;> omega) | (simp_all [-List.getD_eq_getElem?_getD] <;> omega))
  · have hg := hb.no (w := a.2.1) (by omega)
    have hr := findI_range b.evs a.2.1
    rw [show findI b.evs a.2.1 = -1 by omega] at hf
    have ho := open_no b a.2.1 hg
    obtain ⟨evs, made, clock, es⟩ := b
    cases made
    all_goals cases q
    all_goals
      refine Goods.to 2000 [.c (.of ho), .c (.of hf), .s 117 (some false) true true, .b false, .l, .stop] mixed (next) (by kernel_rfl) ?_
      show Yes _
      repeat' apply And.intro
      (all_goals first | rfl | assumption | trivial | omega | (simp [-List.getD_eq_getElem?_getD] <;> omega) | (simp (disch := omega) only [w64, wu64] <;> omega) | (simp (disch := omega) [-List.getD_eq_getElem?_getD, List.getD_cons_zero, List.getD_cons_succ, kCast_self, dfl_pair, dfl_int, w64, wu64] <;> omega) | (rw [Bool.eq_iff_iff]; simp (disch := omega) [-List.getD_eq_getElem?_getD, List.getD_cons_zero, List.getD_cons_succ, kCast_self, dfl_pair, dfl_int, w64, wu64] <;> omega) | (simp_all [-List.getD_eq_getElem?_getD] <;> omega))
set_option maxHeartbeats 4000000 in
theorem does_0 (xs : List ActT) (hx : xs.length ≤ 200) : ∀ (j k : Nat) (b : BookS), k + j = xs.length → BookOk b → b.evs.length ≤ k → Goods (gDoes xs) ⟨.none, lp Try.f6 0, [(0, .slice 0 0 xs.length), (3, .ptr 1 0 0), (4, .slice 4 0 b.evs.length), (17, .slice 0 0 xs.length), (18, .int .i64 xs.length), (19, .int .i64 k)], hp [.tab false actK xs, bookC 2 3 b, bookT b, bookM b, .tab true evK b.evs]⟩
  | 0, k, b, h, hb, hn => by
    have he := events_tri b (by omega)
    have hs := same_tri true true b.evs (by omega)
    obtain ⟨evs, made, clock, es⟩ := b
    cases made
    all_goals
      refine Goods.fin 2000 [.b false, .c (.of he), .c (.of hs)] mixed Try.func6 ?_
      show Yes _
      repeat' apply And.intro
      (all_goals first | rfl | assumption | trivial | omega | (simp [-List.getD_eq_getElem?_getD] <;> omega) | (simp (disch := omega) only [w64, wu64] <;> omega) | (simp (disch := omega) [-List.getD_eq_getElem?_getD, List.getD_cons_zero, List.getD_cons_succ, kCast_self, dfl_pair, dfl_int, w64, wu64] <;> omega) | (rw [Bool.eq_iff_iff]; simp (disch := omega) [-List.getD_eq_getElem?_getD, List.getD_cons_zero, List.getD_cons_succ, kCast_self, dfl_pair, dfl_int, w64, wu64] <;> omega) | (simp_all [-List.getD_eq_getElem?_getD] <;> omega))
  | j + 1, k, b, h, hb, hn => by
    obtain ⟨a, ha⟩ : ∃ a, xs.getD k actD = a := ⟨_, rfl⟩
    have hl : b.evs.length < 1000000 := by omega
    by_cases hstep : a.2.2.1 < 1
    · have ih := does_0 xs hx j (k + 1) b (by omega) hb (by omega)
      obtain ⟨evs, made, clock, es⟩ := b
      cases made
      all_goals
        refine Goods.to 2000 [.b true, .b true, .l, .stop] mixed (ih) (by kernel_rfl) ?_
        show Yes _
        repeat' apply And.intro
        all_goals (try (rw [← ha] at hstep; exact decide_eq_true hstep))
        (all_goals first | rfl | assumption | trivial | omega | (simp [-List.getD_eq_getElem?_getD] <;> omega) | (simp (disch := omega) only [w64, wu64] <;> omega) | (simp (disch := omega) [-List.getD_eq_getElem?_getD, List.getD_cons_zero, List.getD_cons_succ, kCast_self, dfl_pair, dfl_int, w64, wu64] <;> omega) | (rw [Bool.eq_iff_iff]; simp (disch := omega) [-List.getD_eq_getElem?_getD, List.getD_cons_zero, List.getD_cons_succ, kCast_self, dfl_pair, dfl_int, w64, wu64] <;> omega) | (simp_all [-List.getD_eq_getElem?_getD] <;> omega))
    · have hs : decide ((xs.getD k actD).2.2.1 < 1) = false := by rw [ha]; exact decide_eq_false hstep
      by_cases k0 : a.1 = 0
      · have g0 : ((xs.getD k actD).1 == 0) = true := by rw [ha]; simpa using k0
        by_cases hf : 0 ≤ findI b.evs a.2.1
        · obtain ⟨i, hi, h1, h2, h3, h4⟩ := hb.yes hf
          have ih := does_0 xs hx j (k + 1) b (by omega) hb (by omega)
          have next := does_rest xs b hb (by omega) k (by omega) a false ih
          have c1 := rbegin_no true b.evs a.2.1 a.2.2.2.1.1 a.2.2.2.1.2 a.2.2.1 hl hf
          have c2 := begin_no b a.2.1 a.2.2.2.1.1 a.2.2.2.1.2 a.2.2.1 i hi h2
          subst ha
          obtain ⟨evs, made, clock, es⟩ := b
          cases made
          · simp [getB] at h2
          refine Goods.to 2000 [.b true, .b false, .b true, .c (.of c1), .c (.of c2), .upto 25] mixed (next) (by kernel_rfl) ?_
          show Yes _
          repeat' apply And.intro
          all_goals (try first | exact hs | exact g0)
          (all_goals first | rfl | assumption | trivial | omega | (simp [-List.getD_eq_getElem?_getD] <;> omega) | (simp (disch := omega) only [w64, wu64] <;> omega) | (simp (disch := omega) [-List.getD_eq_getElem?_getD, List.getD_cons_zero, List.getD_cons_succ, kCast_self, dfl_pair, dfl_int, w64, wu64] <;> omega) | (rw [Bool.eq_iff_iff]; simp (disch := omega) [-List.getD_eq_getElem?_getD, List.getD_cons_zero, List.getD_cons_succ, kCast_self, dfl_pair, dfl_int, w64, wu64] <;> omega) | (simp_all [-List.getD_eq_getElem?_getD] <;> omega))
        · have h2 := hb.no (w := a.2.1) (by omega)
          have hb' := hb.begin (w := a.2.1) (k := a.2.2.2.1.1) (n := a.2.2.2.1.2) (s := a.2.2.1) (by omega)
          have el : (beginB b a.2.1 a.2.2.2.1.1 a.2.2.2.1.2 a.2.2.1).evs = b.evs ++ [(a.2.1, (a.2.2.2.1.1, a.2.2.2.1.2), (0, 0), 0, a.2.2.1, 0, 0)] := by unfold beginB; cases b.made <;> rfl
          have em : (beginB b a.2.1 a.2.2.2.1.1 a.2.2.2.1.2 a.2.2.1).made = true := by unfold beginB; cases b.made <;> rfl
          have ell : (beginB b a.2.1 a.2.2.2.1.1 a.2.2.2.1.2 a.2.2.1).evs.length = b.evs.length + 1 := by rw [el]; simp
          have ih := does_0 xs hx j (k + 1) _ (by omega) hb' (by omega)
          have next := does_rest xs _ hb' (by omega) k (by omega) a true ih
          have c1 := rbegin_yes true b.evs a.2.1 a.2.2.2.1.1 a.2.2.2.1.2 a.2.2.1 hl (by omega)
          have c2 := begin_yes b a.2.1 a.2.2.2.1.1 a.2.2.2.1.2 a.2.2.1 hl h2
          rw [← el] at c1
          generalize beginB b a.2.1 a.2.2.2.1.1 a.2.2.2.1.2 a.2.2.1 = b' at *
          subst ha
          obtain ⟨evs', made', clock', es'⟩ := b'
          simp only at em
          subst em
          obtain ⟨evs, made, clock, es⟩ := b
          cases made
          all_goals
            refine Goods.to 2000 [.b true, .b false, .b true, .c (.of c1), .c (.of c2), .upto 25] mixed (next) (by kernel_rfl) ?_
            show Yes _
            repeat' apply And.intro
            all_goals (try first | exact hs | exact g0)
            (all_goals first | rfl | assumption | trivial | omega | (simp [-List.getD_eq_getElem?_getD] <;> omega) | (simp (disch := omega) only [w64, wu64] <;> omega) | (simp (disch := omega) [-List.getD_eq_getElem?_getD, List.getD_cons_zero, List.getD_cons_succ, kCast_self, dfl_pair, dfl_int, w64, wu64] <;> omega) | (rw [Bool.eq_iff_iff]; simp (disch := omega) [-List.getD_eq_getElem?_getD, List.getD_cons_zero, List.getD_cons_succ, kCast_self, dfl_pair, dfl_int, w64, wu64] <;> omega) | (simp_all [-List.getD_eq_getElem?_getD] <;> omega))
      · have g0 : ((xs.getD k actD).1 == 0) = false := by rw [ha]; simpa using k0
        by_cases k1 : a.1 = 1
        · have g1 : ((xs.getD k actD).1 == 1) = true := by rw [ha]; simpa using k1
          by_cases hf : 0 ≤ findI b.evs a.2.1
          · obtain ⟨i, hi, h1, h2, h3, h4⟩ := hb.yes hf
            have hb' := hb.set (i := i) (e := stepE (evAt b i)) rfl rfl hi
            have ih := does_0 xs hx j (k + 1) _ (by omega) hb' (by show (b.evs.set i _).length ≤ _; rw [List.length_set]; omega)
            have next := does_rest xs _ hb' (by show (b.evs.set i _).length < _; rw [List.length_set]; omega) k (by omega) a true ih
            have c1 := rstep_yes true b.evs a.2.1 i hl hi h1
            have c2 := step_yes b a.2.1 i hi h2
            have c1 : Tri En 15 [.slice 0 0 b.evs.length, .int .i64 a.2.1] [.tab true evK b.evs] (.tuple [.slice 1 0 (setB b i (stepE (evAt b i))).evs.length, .bl true]) [.tab true evK b.evs, .tab true evK (setB b i (stepE (evAt b i))).evs] := c1
            subst ha
            obtain ⟨evs, made, clock, es⟩ := b
            cases made
            · simp [getB] at h2
            refine Goods.to 2000 [.b true, .b false, .b false, .b true, .c (.of c1), .c (.of c2), .upto 25] mixed (next) (by kernel_rfl) ?_
            show Yes _
            repeat' apply And.intro
            all_goals (try first | exact hs | exact g0 | exact g1)
            (all_goals first | rfl | assumption | trivial | omega | (simp [-List.getD_eq_getElem?_getD] <;> omega) | (simp (disch := omega) only [w64, wu64] <;> omega) | (simp (disch := omega) [-List.getD_eq_getElem?_getD, List.getD_cons_zero, List.getD_cons_succ, kCast_self, dfl_pair, dfl_int, w64, wu64] <;> omega) | (rw [Bool.eq_iff_iff]; simp (disch := omega) [-List.getD_eq_getElem?_getD, List.getD_cons_zero, List.getD_cons_succ, kCast_self, dfl_pair, dfl_int, w64, wu64] <;> omega) | (simp_all [-List.getD_eq_getElem?_getD] <;> omega))
          · have h2 := hb.no (w := a.2.1) (by omega)
            have ih := does_0 xs hx j (k + 1) b (by omega) hb (by omega)
            have next := does_rest xs b hb (by omega) k (by omega) a false ih
            have c1 := rstep_no true b.evs a.2.1 hl (by omega)
            have c2 := step_no b a.2.1 h2
            subst ha
            obtain ⟨evs, made, clock, es⟩ := b
            cases made
            all_goals
              refine Goods.to 2000 [.b true, .b false, .b false, .b true, .c (.of c1), .c (.of c2), .upto 25] mixed (next) (by kernel_rfl) ?_
              show Yes _
              repeat' apply And.intro
              all_goals (try first | exact hs | exact g0 | exact g1)
              (all_goals first | rfl | assumption | trivial | omega | (simp [-List.getD_eq_getElem?_getD] <;> omega) | (simp (disch := omega) only [w64, wu64] <;> omega) | (simp (disch := omega) [-List.getD_eq_getElem?_getD, List.getD_cons_zero, List.getD_cons_succ, kCast_self, dfl_pair, dfl_int, w64, wu64] <;> omega) | (rw [Bool.eq_iff_iff]; simp (disch := omega) [-List.getD_eq_getElem?_getD, List.getD_cons_zero, List.getD_cons_succ, kCast_self, dfl_pair, dfl_int, w64, wu64] <;> omega) | (simp_all [-List.getD_eq_getElem?_getD] <;> omega))
        · have g1 : ((xs.getD k actD).1 == 1) = false := by rw [ha]; simpa using k1
          by_cases k2 : a.1 = 2
          · have g2 : ((xs.getD k actD).1 == 2) = true := by rw [ha]; simpa using k2
            by_cases hf : 0 ≤ findI b.evs a.2.1
            · obtain ⟨i, hi, h1, h2, h3, h4⟩ := hb.yes hf
              by_cases hpt : 0 < evPt (evAt b i)
              · have ih := does_0 xs hx j (k + 1) b (by omega) hb (by omega)
                have next := does_rest xs b hb (by omega) k (by omega) a false ih
                have c1 := rcount_done true b.evs a.2.1 a.2.2.2.2.1 a.2.2.2.2.2 a.2.2.1 i hl hi h1 hpt
                have c2 := count_done b a.2.1 a.2.2.2.2.1 a.2.2.2.2.2 a.2.2.1 i hi h2 hpt
                subst ha
                obtain ⟨evs, made, clock, es⟩ := b
                cases made
                · simp [getB] at h2
                refine Goods.to 2000 [.b true, .b false, .b false, .b false, .b true, .c (.of c1), .c (.of c2), .upto 25] mixed (next) (by kernel_rfl) ?_
                show Yes _
                repeat' apply And.intro
                all_goals (try first | exact hs | exact g0 | exact g1 | exact g2)
                (all_goals first | rfl | assumption | trivial | omega | (simp [-List.getD_eq_getElem?_getD] <;> omega) | (simp (disch := omega) only [w64, wu64] <;> omega) | (simp (disch := omega) [-List.getD_eq_getElem?_getD, List.getD_cons_zero, List.getD_cons_succ, kCast_self, dfl_pair, dfl_int, w64, wu64] <;> omega) | (rw [Bool.eq_iff_iff]; simp (disch := omega) [-List.getD_eq_getElem?_getD, List.getD_cons_zero, List.getD_cons_succ, kCast_self, dfl_pair, dfl_int, w64, wu64] <;> omega) | (simp_all [-List.getD_eq_getElem?_getD] <;> omega))
              · have hb' := hb.set (i := i) (e := countE (evAt b i) a.2.2.2.2.1 a.2.2.2.2.2 a.2.2.1) rfl rfl hi
                have ih := does_0 xs hx j (k + 1) _ (by omega) hb' (by show (b.evs.set i _).length ≤ _; rw [List.length_set]; omega)
                have next := does_rest xs _ hb' (by show (b.evs.set i _).length < _; rw [List.length_set]; omega) k (by omega) a true ih
                have c1 := rcount_yes true b.evs a.2.1 a.2.2.2.2.1 a.2.2.2.2.2 a.2.2.1 i hl hi h1 hpt
                have c2 := count_yes b a.2.1 a.2.2.2.2.1 a.2.2.2.2.2 a.2.2.1 i hi h2 hpt
                have c1 : Tri En 16 [.slice 0 0 b.evs.length, .int .i64 a.2.1, .agg [.int .i64 a.2.2.2.2.1, .int .i64 a.2.2.2.2.2], .int .i64 a.2.2.1] [.tab true evK b.evs] (.tuple [.slice 1 0 (setB b i (countE (evAt b i) a.2.2.2.2.1 a.2.2.2.2.2 a.2.2.1)).evs.length, .bl true]) [.tab true evK b.evs, .tab true evK (setB b i (countE (evAt b i) a.2.2.2.2.1 a.2.2.2.2.2 a.2.2.1)).evs] := c1
                subst ha
                obtain ⟨evs, made, clock, es⟩ := b
                cases made
                · simp [getB] at h2
                refine Goods.to 2000 [.b true, .b false, .b false, .b false, .b true, .c (.of c1), .c (.of c2), .upto 25] mixed (next) (by kernel_rfl) ?_
                show Yes _
                repeat' apply And.intro
                all_goals (try first | exact hs | exact g0 | exact g1 | exact g2)
                (all_goals first | rfl | assumption | trivial | omega | (simp [-List.getD_eq_getElem?_getD] <;> omega) | (simp (disch := omega) only [w64, wu64] <;> omega) | (simp (disch := omega) [-List.getD_eq_getElem?_getD, List.getD_cons_zero, List.getD_cons_succ, kCast_self, dfl_pair, dfl_int, w64, wu64] <;> omega) | (rw [Bool.eq_iff_iff]; simp (disch := omega) [-List.getD_eq_getElem?_getD, List.getD_cons_zero, List.getD_cons_succ, kCast_self, dfl_pair, dfl_int, w64, wu64] <;> omega) | (simp_all [-List.getD_eq_getElem?_getD] <;> omega))
            · have h2 := hb.no (w := a.2.1) (by omega)
              have ih := does_0 xs hx j (k + 1) b (by omega) hb (by omega)
              have next := does_rest xs b hb (by omega) k (by omega) a false ih
              have c1 := rcount_none true b.evs a.2.1 a.2.2.2.2.1 a.2.2.2.2.2 a.2.2.1 hl (by omega)
              have c2 := count_none b a.2.1 a.2.2.2.2.1 a.2.2.2.2.2 a.2.2.1 h2
              subst ha
              obtain ⟨evs, made, clock, es⟩ := b
              cases made
              all_goals
                refine Goods.to 2000 [.b true, .b false, .b false, .b false, .b true, .c (.of c1), .c (.of c2), .upto 25] mixed (next) (by kernel_rfl) ?_
                show Yes _
                repeat' apply And.intro
                all_goals (try first | exact hs | exact g0 | exact g1 | exact g2)
                (all_goals first | rfl | assumption | trivial | omega | (simp [-List.getD_eq_getElem?_getD] <;> omega) | (simp (disch := omega) only [w64, wu64] <;> omega) | (simp (disch := omega) [-List.getD_eq_getElem?_getD, List.getD_cons_zero, List.getD_cons_succ, kCast_self, dfl_pair, dfl_int, w64, wu64] <;> omega) | (rw [Bool.eq_iff_iff]; simp (disch := omega) [-List.getD_eq_getElem?_getD, List.getD_cons_zero, List.getD_cons_succ, kCast_self, dfl_pair, dfl_int, w64, wu64] <;> omega) | (simp_all [-List.getD_eq_getElem?_getD] <;> omega))
          · have g2 : ((xs.getD k actD).1 == 2) = false := by rw [ha]; simpa using k2
            by_cases k3 : a.1 = 3
            · have g3 : ((xs.getD k actD).1 == 3) = true := by rw [ha]; simpa using k3
              by_cases hf : 0 ≤ findI b.evs a.2.1
              · obtain ⟨i, hi, h1, h2, h3, h4⟩ := hb.yes hf
                have hb' := hb.end (i := i) (w0 := a.2.1) (e := endE (evAt b i) a.2.2.2.2.1 a.2.2.2.2.2 a.2.2.1) h3 (show a.2.2.1 ≠ 0 by omega) hi h1
                have ih := does_0 xs hx j (k + 1) _ (by omega) hb' (by show (b.evs.set i _).length ≤ _; rw [List.length_set]; omega)
                have next := does_rest xs _ hb' (by show (b.evs.set i _).length < _; rw [List.length_set]; omega) k (by omega) a true ih
                have c1 := rend_yes true b.evs a.2.1 a.2.2.2.2.1 a.2.2.2.2.2 a.2.2.1 i hl hi h1
                have c2 := end_yes b a.2.1 a.2.2.2.2.1 a.2.2.2.2.2 a.2.2.1 i hi h2
                have c1 : Tri En 17 [.slice 0 0 b.evs.length, .int .i64 a.2.1, .agg [.int .i64 a.2.2.2.2.1, .int .i64 a.2.2.2.2.2], .int .i64 a.2.2.1] [.tab true evK b.evs] (.tuple [.slice 1 0 (endB b i a.2.1 (endE (evAt b i) a.2.2.2.2.1 a.2.2.2.2.2 a.2.2.1)).evs.length, .bl true]) [.tab true evK b.evs, .tab true evK (endB b i a.2.1 (endE (evAt b i) a.2.2.2.2.1 a.2.2.2.2.2 a.2.2.1)).evs] := c1
                subst ha
                obtain ⟨evs, made, clock, es⟩ := b
                cases made
                · simp [getB] at h2
                refine Goods.to 2000 [.b true, .b false, .b false, .b false, .b false, .b true, .c (.of c1), .c (.of c2), .upto 25] mixed (next) (by kernel_rfl) ?_
                show Yes _
                repeat' apply And.intro
                all_goals (try first | exact hs | exact g0 | exact g1 | exact g2 | exact g3)
                (all_goals first | rfl | assumption | trivial | omega | (simp [-List.getD_eq_getElem?_getD] <;> omega) | (simp (disch := omega) only [w64, wu64] <;> omega) | (simp (disch := omega) [-List.getD_eq_getElem?_getD, List.getD_cons_zero, List.getD_cons_succ, kCast_self, dfl_pair, dfl_int, w64, wu64] <;> omega) | (rw [Bool.eq_iff_iff]; simp (disch := omega) [-List.getD_eq_getElem?_getD, List.getD_cons_zero, List.getD_cons_succ, kCast_self, dfl_pair, dfl_int, w64, wu64] <;> omega) | (simp_all [-List.getD_eq_getElem?_getD] <;> omega))
              · have h2 := hb.no (w := a.2.1) (by omega)
                have ih := does_0 xs hx j (k + 1) b (by omega) hb (by omega)
                have next := does_rest xs b hb (by omega) k (by omega) a false ih
                have c1 := rend_no true b.evs a.2.1 a.2.2.2.2.1 a.2.2.2.2.2 a.2.2.1 hl (by omega)
                have c2 := end_no b a.2.1 a.2.2.2.2.1 a.2.2.2.2.2 a.2.2.1 h2
                subst ha
                obtain ⟨evs, made, clock, es⟩ := b
                cases made
                all_goals
                  refine Goods.to 2000 [.b true, .b false, .b false, .b false, .b false, .b true, .c (.of c1), .c (.of c2), .upto 25] mixed (next) (by kernel_rfl) ?_
                  show Yes _
                  repeat' apply And.intro
                  all_goals (try first | exact hs | exact g0 | exact g1 | exact g2 | exact g3)
                  (all_goals first | rfl | assumption | trivial | omega | (simp [-List.getD_eq_getElem?_getD] <;> omega) | (simp (disch := omega) only [w64, wu64] <;> omega) | (simp (disch := omega) [-List.getD_eq_getElem?_getD, List.getD_cons_zero, List.getD_cons_succ, kCast_self, dfl_pair, dfl_int, w64, wu64] <;> omega) | (rw [Bool.eq_iff_iff]; simp (disch := omega) [-List.getD_eq_getElem?_getD, List.getD_cons_zero, List.getD_cons_succ, kCast_self, dfl_pair, dfl_int, w64, wu64] <;> omega) | (simp_all [-List.getD_eq_getElem?_getD] <;> omega))
            · have g3 : ((xs.getD k actD).1 == 3) = false := by rw [ha]; simpa using k3
              have ih := does_0 xs hx j (k + 1) b (by omega) hb (by omega)
              have next := does_rest xs b hb (by omega) k (by omega) a true ih
              subst ha
              obtain ⟨evs, made, clock, es⟩ := b
              cases made
              all_goals
                refine Goods.to 2000 [.b true, .b false, .b false, .b false, .b false, .b false, .upto 25] mixed (next) (by kernel_rfl) ?_
                show Yes _
                repeat' apply And.intro
                all_goals (try first | exact hs | exact g0 | exact g1 | exact g2 | exact g3)
                (all_goals first | rfl | assumption | trivial | omega | (simp [-List.getD_eq_getElem?_getD] <;> omega) | (simp (disch := omega) only [w64, wu64] <;> omega) | (simp (disch := omega) [-List.getD_eq_getElem?_getD, List.getD_cons_zero, List.getD_cons_succ, kCast_self, dfl_pair, dfl_int, w64, wu64] <;> omega) | (rw [Bool.eq_iff_iff]; simp (disch := omega) [-List.getD_eq_getElem?_getD, List.getD_cons_zero, List.getD_cons_succ, kCast_self, dfl_pair, dfl_int, w64, wu64] <;> omega) | (simp_all [-List.getD_eq_getElem?_getD] <;> omega))
theorem NoteDoes_tri (xs : List ActT) (hl : xs.length ≤ 9223372036854775807) : Tri En 6 [.slice 0 0 xs.length] [.tab false actK xs] (.bl true) (gones 1) := by
  by_cases hx : xs.length ≤ 200
  · have ih := does_0 xs hx xs.length 0 book0 (by omega) book0_ok (by decide)
    refine Tri.of Try.func6 rfl Try.call6 rfl ?_
    refine Goods.to 2000 [.c (.of speaks_tri), .b false, .l, .stop] mixed (ih) (by kernel_rfl) ?_
    show Yes _
    repeat' apply And.intro
    (all_goals first | rfl | assumption | trivial | omega | (simp [-List.getD_eq_getElem?_getD] <;> omega) | (simp (disch := omega) only [w64, wu64] <;> omega) | (simp (disch := omega) [-List.getD_eq_getElem?_getD, List.getD_cons_zero, List.getD_cons_succ, kCast_self, dfl_pair, dfl_int, w64, wu64] <;> omega) | (rw [Bool.eq_iff_iff]; simp (disch := omega) [-List.getD_eq_getElem?_getD, List.getD_cons_zero, List.getD_cons_succ, kCast_self, dfl_pair, dfl_int, w64, wu64] <;> omega) | (simp_all [-List.getD_eq_getElem?_getD] <;> omega))
  · refine Tri.of Try.func6 rfl Try.call6 rfl ?_
    refine Goods.fin 2000 [.c (.of speaks_tri), .b true] mixed Try.func6 ?_
    show Yes _
    repeat' apply And.intro
    (all_goals first | rfl | assumption | trivial | omega | (simp [-List.getD_eq_getElem?_getD] <;> omega) | (simp (disch := omega) only [w64, wu64] <;> omega) | (simp (disch := omega) [-List.getD_eq_getElem?_getD, List.getD_cons_zero, List.getD_cons_succ, kCast_self, dfl_pair, dfl_int, w64, wu64] <;> omega) | (rw [Bool.eq_iff_iff]; simp (disch := omega) [-List.getD_eq_getElem?_getD, List.getD_cons_zero, List.getD_cons_succ, kCast_self, dfl_pair, dfl_int, w64, wu64] <;> omega) | (simp_all [-List.getD_eq_getElem?_getD] <;> omega))
theorem NoteDoes_law (d : dats ([(false, (.slice (.pair (.int .i64) (.pair (.int .i64) (.pair (.int .i64) (.pair (.pair (.int .i64) (.pair (.int .i64) .unit)) (.pair (.pair (.int .i64) (.pair (.int .i64) .unit)) .unit)))))))] : List (Bool × Sh))) (hd : datsOk ([(false, (.slice (.pair (.int .i64) (.pair (.int .i64) (.pair (.int .i64) (.pair (.pair (.int .i64) (.pair (.int .i64) .unit)) (.pair (.pair (.int .i64) (.pair (.int .i64) .unit)) .unit)))))))] : List (Bool × Sh)) d) : Tri En 6 (argsOf ([(false, (.slice (.pair (.int .i64) (.pair (.int .i64) (.pair (.int .i64) (.pair (.pair (.int .i64) (.pair (.int .i64) .unit)) (.pair (.pair (.int .i64) (.pair (.int .i64) .unit)) .unit)))))))] : List (Bool × Sh)) d 0) (objsOf ([(false, (.slice (.pair (.int .i64) (.pair (.int .i64) (.pair (.int .i64) (.pair (.pair (.int .i64) (.pair (.int .i64) .unit)) (.pair (.pair (.int .i64) (.pair (.int .i64) .unit)) .unit)))))))] : List (Bool × Sh)) d) (.bl true) (gones (cnts ([(false, (.slice (.pair (.int .i64) (.pair (.int .i64) (.pair (.int .i64) (.pair (.pair (.int .i64) (.pair (.int .i64) .unit)) (.pair (.pair (.int .i64) (.pair (.int .i64) .unit)) .unit)))))))] : List (Bool × Sh)))) := by
  obtain ⟨xs, _⟩ := d
  obtain ⟨⟨h1, _⟩, _⟩ := hd
  exact NoteDoes_tri xs (maxLen_le h1)
end Go.Proofs.Ytkeedpjdadgaeaa.E
