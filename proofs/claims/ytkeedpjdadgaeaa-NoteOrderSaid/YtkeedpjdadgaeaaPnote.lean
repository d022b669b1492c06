/- Package note: books of events; the contract of each function. -/
import Derived.Test.YtkeedpjdadgaeaaPmap
namespace Go.Proofs.Ytkeedpjdadgaeaa.E
open Go
set_option maxRecDepth 100000

abbrev evK : K := .pair (.int .i64) (.pair (.pair (.int .i64) (.int .i64)) (.pair (.pair (.int .i64) (.int .i64)) (.pair (.int .i64) (.pair (.int .i64) (.pair (.int .i64) (.int .i64))))))
/-- An event: its worker, what was asked, what was answered, steps, begin, point, end. -/
abbrev EvT := Int × (Int × Int) × (Int × Int) × Int × Int × Int × Int
abbrev MapT := List (Ent (.int .i64) (.int .i64))
structure BookS where
  evs : List EvT
  made : Bool
  clock : Nat
  es : MapT
def mapA (m : Bool) (i : Nat) : AV := match m with
  | true => .map i
  | false => .nilmap
def mapO (m : Bool) (c : Nat) (es : MapT) : AObj := match m with
  | true => .map (.int .i64) (.int .i64) c es
  | false => .gone
def bookC (t m : Nat) (b : BookS) : AObj := .cells [.slice t 0 b.evs.length, mapA b.made m]
def bookT (b : BookS) : AObj := .tab true evK b.evs
def bookM (b : BookS) : AObj := mapO b.made b.clock b.es
def getB (b : BookS) (w : Int) : Option Int := match b.made with
  | true => mget (kk := .int .i64) (vk := .int .i64) w b.es
  | false => none
def evD : EvT := (0, (0, 0), (0, 0), 0, 0, 0, 0)
theorem at_no (b : BookS) (w : Int) (h : getB b w = none) : Tri En 20 [.ptr 0 0 0, .int .i64 w] [bookC 1 2 b, bookT b, bookM b] .nilptr [bookC 1 2 b, bookT b, bookM b] := by
  obtain ⟨evs, made, clock, es⟩ := b
  cases made
  · refine Tri.of Try.func20 rfl Try.call20 rfl ?_
    refine Goods.fin 2000 [] mixed Try.func20 ?_
    show Yes _
    repeat' apply And.intro
    (all_goals first | rfl | assumption | trivial | omega | (simp [-List.getD_eq_getElem?_getD] <;> omega) | (simp (disch := omega) only [w64, wu64] <;> omega) | (simp (disch := omega) [-List.getD_eq_getElem?_getD, List.getD_cons_zero, List.getD_cons_succ, kCast_self, dfl_pair, dfl_int, w64, wu64] <;> omega) | (rw [Bool.eq_iff_iff]; simp (disch := omega) [-List.getD_eq_getElem?_getD, List.getD_cons_zero, List.getD_cons_succ, kCast_self, dfl_pair, dfl_int, w64, wu64] <;> omega) | (simp_all [-List.getD_eq_getElem?_getD] <;> omega))
  · simp only [getB] at h
    have e : mhas (kk := .int .i64) (vk := .int .i64) w es = false := by rw [mhas, h]; rfl
    refine Tri.of Try.func20 rfl Try.call20 rfl ?_
    refine Goods.fin 2000 [.b true] mixed Try.func20 ?_
    show Yes _
    repeat' apply And.intro
    (all_goals first | rfl | assumption | trivial | omega | (simp [-List.getD_eq_getElem?_getD, e] <;> omega) | (simp (disch := omega) only [w64, wu64] <;> omega) | (simp (disch := omega) [-List.getD_eq_getElem?_getD, List.getD_cons_zero, List.getD_cons_succ, kCast_self, dfl_pair, dfl_int, w64, wu64, e] <;> omega) | (rw [Bool.eq_iff_iff]; simp (disch := omega) [-List.getD_eq_getElem?_getD, List.getD_cons_zero, List.getD_cons_succ, kCast_self, dfl_pair, dfl_int, w64, wu64, e] <;> omega) | (simp_all [-List.getD_eq_getElem?_getD] <;> omega))
theorem at_yes (b : BookS) (w : Int) (i : Nat) (hi : i < b.evs.length) (h : getB b w = some (i : Int)) : Tri En 20 [.ptr 0 0 0, .int .i64 w] [bookC 1 2 b, bookT b, bookM b] (.ptr 1 i 0) [bookC 1 2 b, bookT b, bookM b] := by
  obtain ⟨evs, made, clock, es⟩ := b
  cases made
  · simp [getB] at h
  · simp only [getB] at h
    simp only at hi
    have e : mhas (kk := .int .i64) (vk := .int .i64) w es = true := by rw [mhas, h]; rfl
    have e2 : (mget (kk := .int .i64) (vk := .int .i64) w es).getD 0 = (i : Int) := by rw [h]; rfl
    refine Tri.of Try.func20 rfl Try.call20 rfl ?_
    refine Goods.fin 2000 [.b false] mixed Try.func20 ?_
    show Yes _
    repeat' apply And.intro
    (all_goals first | rfl | assumption | trivial | omega | (simp [-List.getD_eq_getElem?_getD, e, e2] <;> omega) | (simp (disch := omega) only [w64, wu64] <;> omega) | (simp (disch := omega) [-List.getD_eq_getElem?_getD, List.getD_cons_zero, List.getD_cons_succ, kCast_self, dfl_pair, dfl_int, w64, wu64, e, e2] <;> omega) | (rw [Bool.eq_iff_iff]; simp (disch := omega) [-List.getD_eq_getElem?_getD, List.getD_cons_zero, List.getD_cons_succ, kCast_self, dfl_pair, dfl_int, w64, wu64, e, e2] <;> omega) | (simp_all [-List.getD_eq_getElem?_getD] <;> omega))
def evAt (b : BookS) (i : Nat) : EvT := b.evs.getD i evD
def beginB (b : BookS) (w k n s : Int) : BookS := match b.made with
  | true => ⟨b.evs ++ [(w, (k, n), (0, 0), 0, s, 0, 0)], true, mclock (kk := .int .i64) w b.clock b.es, mput (kk := .int .i64) (vk := .int .i64) w (b.evs.length : Int) b.clock b.es⟩
  | false => ⟨b.evs ++ [(w, (k, n), (0, 0), 0, s, 0, 0)], true, mclock (kk := .int .i64) (vk := .int .i64) w 0 [], mput (kk := .int .i64) (vk := .int .i64) w (b.evs.length : Int) 0 []⟩
def setB (b : BookS) (i : Nat) (e : EvT) : BookS := { b with evs := b.evs.set i e }
def stepE (e : EvT) : EvT := (e.1, e.2.1, e.2.2.1, IntKind.i64.wrap (e.2.2.2.1 + 1), e.2.2.2.2)
def countE (e : EvT) (c n s : Int) : EvT := (e.1, e.2.1, (c, n), e.2.2.2.1, e.2.2.2.2.1, s, e.2.2.2.2.2.2)
def endE (e : EvT) (c n s : Int) : EvT := (e.1, e.2.1, (c, n), e.2.2.2.1, e.2.2.2.2.1, e.2.2.2.2.2.1, s)
def endB (b : BookS) (i : Nat) (w : Int) (e : EvT) : BookS := { b with evs := b.evs.set i e, es := mdel (kk := .int .i64) w b.es }
theorem getD_set_ev {α : Type} {l : List α} {i : Nat} {x d : α} (h : i < l.length) : (l.set i x).getD i d = x := by simp [List.getD, h]
theorem begin_no (b : BookS) (w k n s : Int) (i : Nat) (hi : i < b.evs.length) (h : getB b w = some (i : Int)) : Tri En 8 [.ptr 0 0 0, .int .i64 w, .agg [.int .i64 k, .int .i64 n], .int .i64 s] [bookC 1 2 b, bookT b, bookM b] (.bl false) [bookC 1 2 b, bookT b, bookM b] := by
  have ha := at_yes b w i hi h
  obtain ⟨evs, made, clock, es⟩ := b
  cases made
  · simp [getB] at h
  · refine Tri.of Try.func8 rfl Try.call8 rfl ?_
    refine Goods.fin 2000 [.c (.of ha)] mixed Try.func8 ?_
    show Yes _
    repeat' apply And.intro
    (all_goals first | rfl | assumption | trivial | omega | (simp [-List.getD_eq_getElem?_getD] <;> omega) | (simp (disch := omega) only [w64, wu64] <;> omega) | (simp (disch := omega) [-List.getD_eq_getElem?_getD, List.getD_cons_zero, List.getD_cons_succ, kCast_self, dfl_pair, dfl_int, w64, wu64] <;> omega) | (rw [Bool.eq_iff_iff]; simp (disch := omega) [-List.getD_eq_getElem?_getD, List.getD_cons_zero, List.getD_cons_succ, kCast_self, dfl_pair, dfl_int, w64, wu64] <;> omega) | (simp_all [-List.getD_eq_getElem?_getD] <;> omega))
theorem begin_yes (b : BookS) (w k n s : Int) (hn : b.evs.length < 1000000) (h : getB b w = none) : Tri En 8 [.ptr 0 0 0, .int .i64 w, .agg [.int .i64 k, .int .i64 n], .int .i64 s] [bookC 1 2 b, bookT b, bookM b] (.bl true) [bookC 3 4 (beginB b w k n s), .gone, .gone, bookT (beginB b w k n s), bookM (beginB b w k n s)] := by
  have ha := at_no b w h
  obtain ⟨evs, made, clock, es⟩ := b
  simp only at hn
  cases made
  · refine Tri.of Try.func8 rfl Try.call8 rfl ?_
    refine Goods.fin 2000 [.c (.of ha)] mixed Try.func8 ?_
    show Yes _
    repeat' apply And.intro
    (all_goals first | rfl | assumption | trivial | omega | (simp [-List.getD_eq_getElem?_getD, beginB] <;> omega) | (simp (disch := omega) only [w64, wu64] <;> omega) | (simp (disch := omega) [-List.getD_eq_getElem?_getD, List.getD_cons_zero, List.getD_cons_succ, kCast_self, dfl_pair, dfl_int, w64, wu64, beginB] <;> omega) | (rw [Bool.eq_iff_iff]; simp (disch := omega) [-List.getD_eq_getElem?_getD, List.getD_cons_zero, List.getD_cons_succ, kCast_self, dfl_pair, dfl_int, w64, wu64, beginB] <;> omega) | (simp_all [-List.getD_eq_getElem?_getD] <;> omega))
  · refine Tri.of Try.func8 rfl Try.call8 rfl ?_
    refine Goods.fin 2000 [.c (.of ha)] mixed Try.func8 ?_
    show Yes _
    repeat' apply And.intro
    (all_goals first | rfl | assumption | trivial | omega | (simp [-List.getD_eq_getElem?_getD, beginB] <;> omega) | (simp (disch := omega) only [w64, wu64] <;> omega) | (simp (disch := omega) [-List.getD_eq_getElem?_getD, List.getD_cons_zero, List.getD_cons_succ, kCast_self, dfl_pair, dfl_int, w64, wu64, beginB] <;> omega) | (rw [Bool.eq_iff_iff]; simp (disch := omega) [-List.getD_eq_getElem?_getD, List.getD_cons_zero, List.getD_cons_succ, kCast_self, dfl_pair, dfl_int, w64, wu64, beginB] <;> omega) | (simp_all [-List.getD_eq_getElem?_getD] <;> omega))
theorem step_no (b : BookS) (w : Int) (h : getB b w = none) : Tri En 12 [.ptr 0 0 0, .int .i64 w] [bookC 1 2 b, bookT b, bookM b] (.bl false) [bookC 1 2 b, bookT b, bookM b] := by
  have ha := at_no b w h
  obtain ⟨evs, made, clock, es⟩ := b
  cases made
  all_goals
    refine Tri.of Try.func12 rfl Try.call12 rfl ?_
    refine Goods.fin 2000 [.c (.of ha)] mixed Try.func12 ?_
    show Yes _
    repeat' apply And.intro
    (all_goals first | rfl | assumption | trivial | omega | (simp [-List.getD_eq_getElem?_getD] <;> omega) | (simp (disch := omega) only [w64, wu64] <;> omega) | (simp (disch := omega) [-List.getD_eq_getElem?_getD, List.getD_cons_zero, List.getD_cons_succ, kCast_self, dfl_pair, dfl_int, w64, wu64] <;> omega) | (rw [Bool.eq_iff_iff]; simp (disch := omega) [-List.getD_eq_getElem?_getD, List.getD_cons_zero, List.getD_cons_succ, kCast_self, dfl_pair, dfl_int, w64, wu64] <;> omega) | (simp_all [-List.getD_eq_getElem?_getD] <;> omega))
theorem step_yes (b : BookS) (w : Int) (i : Nat) (hi : i < b.evs.length) (h : getB b w = some (i : Int)) : Tri En 12 [.ptr 0 0 0, .int .i64 w] [bookC 1 2 b, bookT b, bookM b] (.bl true) [bookC 1 2 (setB b i (stepE (evAt b i))), bookT (setB b i (stepE (evAt b i))), bookM (setB b i (stepE (evAt b i)))] := by
  have ha := at_yes b w i hi h
  obtain ⟨evs, made, clock, es⟩ := b
  simp only at hi
  cases made
  · simp [getB] at h
  · refine Tri.of Try.func12 rfl Try.call12 rfl ?_
    refine Goods.fin 2000 [.c (.of ha)] mixed Try.func12 ?_
    show Yes _
    repeat' apply And.intro
    (all_goals first | rfl | assumption | trivial | omega | (simp [-List.getD_eq_getElem?_getD, setB] <;> omega) | (simp (disch := omega) only [w64, wu64] <;> omega) | (simp (disch := omega) [-List.getD_eq_getElem?_getD, List.getD_cons_zero, List.getD_cons_succ, kCast_self, dfl_pair, dfl_int, w64, wu64, setB] <;> omega) | (rw [Bool.eq_iff_iff]; simp (disch := omega) [-List.getD_eq_getElem?_getD, List.getD_cons_zero, List.getD_cons_succ, kCast_self, dfl_pair, dfl_int, w64, wu64, setB] <;> omega) | (simp_all [-List.getD_eq_getElem?_getD] <;> omega))
abbrev evPt (e : EvT) : Int := e.2.2.2.2.2.1
theorem count_none (b : BookS) (w c n s : Int) (h : getB b w = none) : Tri En 13 [.ptr 0 0 0, .int .i64 w, .agg [.int .i64 c, .int .i64 n], .int .i64 s] [bookC 1 2 b, bookT b, bookM b] (.bl false) [bookC 1 2 b, bookT b, bookM b] := by
  have ha := at_no b w h
  obtain ⟨evs, made, clock, es⟩ := b
  cases made
  all_goals
    refine Tri.of Try.func13 rfl Try.call13 rfl ?_
    refine Goods.fin 2000 [.c (.of ha)] mixed Try.func13 ?_
    show Yes _
    repeat' apply And.intro
    (all_goals first | rfl | assumption | trivial | omega | (simp [-List.getD_eq_getElem?_getD] <;> omega) | (simp (disch := omega) only [w64, wu64] <;> omega) | (simp (disch := omega) [-List.getD_eq_getElem?_getD, List.getD_cons_zero, List.getD_cons_succ, kCast_self, dfl_pair, dfl_int, w64, wu64] <;> omega) | (rw [Bool.eq_iff_iff]; simp (disch := omega) [-List.getD_eq_getElem?_getD, List.getD_cons_zero, List.getD_cons_succ, kCast_self, dfl_pair, dfl_int, w64, wu64] <;> omega) | (simp_all [-List.getD_eq_getElem?_getD] <;> omega))
theorem count_done (b : BookS) (w c n s : Int) (i : Nat) (hi : i < b.evs.length) (h : getB b w = some (i : Int)) (hp' : 0 < evPt (evAt b i)) : Tri En 13 [.ptr 0 0 0, .int .i64 w, .agg [.int .i64 c, .int .i64 n], .int .i64 s] [bookC 1 2 b, bookT b, bookM b] (.bl false) [bookC 1 2 b, bookT b, bookM b] := by
  have ha := at_yes b w i hi h
  obtain ⟨evs, made, clock, es⟩ := b
  simp only at hi
  have hq : 0 < (evs.getD i evD).2.2.2.2.2.1 := hp'
  cases made
  · simp [getB] at h
  · refine Tri.of Try.func13 rfl Try.call13 rfl ?_
    refine Goods.fin 2000 [.c (.of ha), .b true] mixed Try.func13 ?_
    show Yes _
    repeat' apply And.intro
    all_goals (try exact decide_eq_true hq)
    (all_goals first | rfl | assumption | trivial | omega | (simp [-List.getD_eq_getElem?_getD] <;> omega) | (simp (disch := omega) only [w64, wu64] <;> omega) | (simp (disch := omega) [-List.getD_eq_getElem?_getD, List.getD_cons_zero, List.getD_cons_succ, kCast_self, dfl_pair, dfl_int, w64, wu64] <;> omega) | (rw [Bool.eq_iff_iff]; simp (disch := omega) [-List.getD_eq_getElem?_getD, List.getD_cons_zero, List.getD_cons_succ, kCast_self, dfl_pair, dfl_int, w64, wu64] <;> omega) | (simp_all [-List.getD_eq_getElem?_getD] <;> omega))
theorem count_yes (b : BookS) (w c n s : Int) (i : Nat) (hi : i < b.evs.length) (h : getB b w = some (i : Int)) (hp' : ¬ 0 < evPt (evAt b i)) : Tri En 13 [.ptr 0 0 0, .int .i64 w, .agg [.int .i64 c, .int .i64 n], .int .i64 s] [bookC 1 2 b, bookT b, bookM b] (.bl true) [bookC 1 2 (setB b i (countE (evAt b i) c n s)), bookT (setB b i (countE (evAt b i) c n s)), bookM (setB b i (countE (evAt b i) c n s))] := by
  have ha := at_yes b w i hi h
  obtain ⟨evs, made, clock, es⟩ := b
  simp only at hi
  have hq : ¬ 0 < (evs.getD i evD).2.2.2.2.2.1 := hp'
  cases made
  · simp [getB] at h
  · refine Tri.of Try.func13 rfl Try.call13 rfl ?_
    refine Goods.fin 2000 [.c (.of ha), .b false] mixed Try.func13 ?_
    show Yes _
    repeat' apply And.intro
    all_goals (try first | exact decide_eq_true hq | exact decide_eq_false hq)
    all_goals (try simp only [kCast_self, List.length_set, getD_set_ev hi, List.set_set])
    all_goals (try rfl)
    (all_goals first | rfl | assumption | trivial | omega | (simp [-List.getD_eq_getElem?_getD, setB] <;> omega) | (simp (disch := omega) only [w64, wu64] <;> omega) | (simp (disch := omega) [-List.getD_eq_getElem?_getD, List.getD_cons_zero, List.getD_cons_succ, kCast_self, dfl_pair, dfl_int, w64, wu64, setB] <;> omega) | (rw [Bool.eq_iff_iff]; simp (disch := omega) [-List.getD_eq_getElem?_getD, List.getD_cons_zero, List.getD_cons_succ, kCast_self, dfl_pair, dfl_int, w64, wu64, setB] <;> omega) | (simp_all [-List.getD_eq_getElem?_getD] <;> omega))
theorem end_no (b : BookS) (w c n s : Int) (h : getB b w = none) : Tri En 11 [.ptr 0 0 0, .int .i64 w, .agg [.int .i64 c, .int .i64 n], .int .i64 s] [bookC 1 2 b, bookT b, bookM b] (.bl false) [bookC 1 2 b, bookT b, bookM b] := by
  have ha := at_no b w h
  obtain ⟨evs, made, clock, es⟩ := b
  cases made
  all_goals
    refine Tri.of Try.func11 rfl Try.call11 rfl ?_
    refine Goods.fin 2000 [.c (.of ha)] mixed Try.func11 ?_
    show Yes _
    repeat' apply And.intro
    (all_goals first | rfl | assumption | trivial | omega | (simp [-List.getD_eq_getElem?_getD] <;> omega) | (simp (disch := omega) only [w64, wu64] <;> omega) | (simp (disch := omega) [-List.getD_eq_getElem?_getD, List.getD_cons_zero, List.getD_cons_succ, kCast_self, dfl_pair, dfl_int, w64, wu64] <;> omega) | (rw [Bool.eq_iff_iff]; simp (disch := omega) [-List.getD_eq_getElem?_getD, List.getD_cons_zero, List.getD_cons_succ, kCast_self, dfl_pair, dfl_int, w64, wu64] <;> omega) | (simp_all [-List.getD_eq_getElem?_getD] <;> omega))
theorem end_yes (b : BookS) (w c n s : Int) (i : Nat) (hi : i < b.evs.length) (h : getB b w = some (i : Int)) : Tri En 11 [.ptr 0 0 0, .int .i64 w, .agg [.int .i64 c, .int .i64 n], .int .i64 s] [bookC 1 2 b, bookT b, bookM b] (.bl true) [bookC 1 2 (endB b i w (endE (evAt b i) c n s)), bookT (endB b i w (endE (evAt b i) c n s)), bookM (endB b i w (endE (evAt b i) c n s))] := by
  have ha := at_yes b w i hi h
  obtain ⟨evs, made, clock, es⟩ := b
  simp only at hi
  cases made
  · simp [getB] at h
  · refine Tri.of Try.func11 rfl Try.call11 rfl ?_
    refine Goods.fin 2000 [.c (.of ha)] mixed Try.func11 ?_
    show Yes _
    repeat' apply And.intro
    all_goals (try simp only [kCast_self, List.length_set, getD_set_ev hi, List.set_set])
    all_goals (try rfl)
    (all_goals first | rfl | assumption | trivial | omega | (simp [-List.getD_eq_getElem?_getD, endB] <;> omega) | (simp (disch := omega) only [w64, wu64] <;> omega) | (simp (disch := omega) [-List.getD_eq_getElem?_getD, List.getD_cons_zero, List.getD_cons_succ, kCast_self, dfl_pair, dfl_int, w64, wu64, endB] <;> omega) | (rw [Bool.eq_iff_iff]; simp (disch := omega) [-List.getD_eq_getElem?_getD, List.getD_cons_zero, List.getD_cons_succ, kCast_self, dfl_pair, dfl_int, w64, wu64, endB] <;> omega) | (simp_all [-List.getD_eq_getElem?_getD] <;> omega))
def evA (e : EvT) : AV := .agg (enc evK e)
theorem open_no (b : BookS) (w : Int) (h : getB b w = none) : Tri En 18 [.ptr 0 0 0, .int .i64 w] [bookC 1 2 b, bookT b, bookM b] (.tuple [evA evD, .bl false]) [bookC 1 2 b, bookT b, bookM b] := by
  have ha := at_no b w h
  obtain ⟨evs, made, clock, es⟩ := b
  cases made
  all_goals
    refine Tri.of Try.func18 rfl Try.call18 rfl ?_
    refine Goods.fin 2000 [.c (.of ha)] mixed Try.func18 ?_
    show Yes _
    repeat' apply And.intro
    (all_goals first | rfl | assumption | trivial | omega | (simp [-List.getD_eq_getElem?_getD] <;> omega) | (simp (disch := omega) only [w64, wu64] <;> omega) | (simp (disch := omega) [-List.getD_eq_getElem?_getD, List.getD_cons_zero, List.getD_cons_succ, kCast_self, dfl_pair, dfl_int, w64, wu64] <;> omega) | (rw [Bool.eq_iff_iff]; simp (disch := omega) [-List.getD_eq_getElem?_getD, List.getD_cons_zero, List.getD_cons_succ, kCast_self, dfl_pair, dfl_int, w64, wu64] <;> omega) | (simp_all [-List.getD_eq_getElem?_getD] <;> omega))
theorem open_yes (b : BookS) (w : Int) (i : Nat) (hi : i < b.evs.length) (h : getB b w = some (i : Int)) : Tri En 18 [.ptr 0 0 0, .int .i64 w] [bookC 1 2 b, bookT b, bookM b] (.tuple [evA (evAt b i), .bl true]) [bookC 1 2 b, bookT b, bookM b] := by
  have ha := at_yes b w i hi h
  obtain ⟨evs, made, clock, es⟩ := b
  simp only at hi
  cases made
  · simp [getB] at h
  · refine Tri.of Try.func18 rfl Try.call18 rfl ?_
    refine Goods.fin 2000 [.c (.of ha)] mixed Try.func18 ?_
    show Yes _
    repeat' apply And.intro
    (all_goals first | rfl | assumption | trivial | omega | (simp [-List.getD_eq_getElem?_getD] <;> omega) | (simp (disch := omega) only [w64, wu64] <;> omega) | (simp (disch := omega) [-List.getD_eq_getElem?_getD, List.getD_cons_zero, List.getD_cons_succ, kCast_self, dfl_pair, dfl_int, w64, wu64] <;> omega) | (rw [Bool.eq_iff_iff]; simp (disch := omega) [-List.getD_eq_getElem?_getD, List.getD_cons_zero, List.getD_cons_succ, kCast_self, dfl_pair, dfl_int, w64, wu64] <;> omega) | (simp_all [-List.getD_eq_getElem?_getD] <;> omega))
theorem clone_ev (own : Bool) (xs : List EvT) (hn : xs.length ≤ 17179869184) : Tri En 21 [.slice 0 0 xs.length] [.tab own evK xs] (.slice 1 0 xs.length) [.tab own evK xs, .tab true evK xs] := by
  by_cases h0 : xs.length = 0
  · obtain rfl : xs = [] := List.eq_nil_of_length_eq_zero h0
    refine Tri.slice0 (pre := []) (post := []) ?_ ?_
    · refine Tri.of Try.func21 rfl Try.call21 rfl ?_
      refine Goods.fin 2000 [] mixed Try.func21 ?_
      show Yes _
      repeat' apply And.intro
      (all_goals first | rfl | assumption | trivial | omega | (simp [-List.getD_eq_getElem?_getD] <;> omega) | (simp (disch := omega) only [w64, wu64] <;> omega) | (simp (disch := omega) [-List.getD_eq_getElem?_getD, List.getD_cons_zero, List.getD_cons_succ, kCast_self, dfl_pair, dfl_int, w64, wu64] <;> omega) | (rw [Bool.eq_iff_iff]; simp (disch := omega) [-List.getD_eq_getElem?_getD, List.getD_cons_zero, List.getD_cons_succ, kCast_self, dfl_pair, dfl_int, w64, wu64] <;> omega) | (simp_all [-List.getD_eq_getElem?_getD] <;> omega))
    · refine Tri.of Try.func21 rfl Try.call21 rfl ?_
      refine Goods.fin 2000 [] mixed Try.func21 ?_
      show Yes _
      repeat' apply And.intro
      (all_goals first | rfl | assumption | trivial | omega | (simp [-List.getD_eq_getElem?_getD] <;> omega) | (simp (disch := omega) only [w64, wu64] <;> omega) | (simp (disch := omega) [-List.getD_eq_getElem?_getD, List.getD_cons_zero, List.getD_cons_succ, kCast_self, dfl_pair, dfl_int, w64, wu64] <;> omega) | (rw [Bool.eq_iff_iff]; simp (disch := omega) [-List.getD_eq_getElem?_getD, List.getD_cons_zero, List.getD_cons_succ, kCast_self, dfl_pair, dfl_int, w64, wu64] <;> omega) | (simp_all [-List.getD_eq_getElem?_getD] <;> omega))
  · refine Tri.of Try.func21 rfl Try.call21 rfl ?_
    refine Goods.fin 2000 [] mixed Try.func21 ?_
    show Yes _
    repeat' apply And.intro
    (all_goals first | rfl | assumption | trivial | omega | (simp [-List.getD_eq_getElem?_getD] <;> omega) | (simp (disch := omega) only [w64, wu64] <;> omega) | (simp (disch := omega) [-List.getD_eq_getElem?_getD, List.getD_cons_zero, List.getD_cons_succ, kCast_self, dfl_pair, dfl_int, w64, wu64] <;> omega) | (rw [Bool.eq_iff_iff]; simp (disch := omega) [-List.getD_eq_getElem?_getD, List.getD_cons_zero, List.getD_cons_succ, kCast_self, dfl_pair, dfl_int, w64, wu64] <;> omega) | (simp_all [-List.getD_eq_getElem?_getD] <;> omega))
theorem events_tri (b : BookS) (hn : b.evs.length ≤ 17179869184) : Tri En 9 [.ptr 0 0 0] [bookC 1 2 b, bookT b, bookM b] (.slice 3 0 b.evs.length) [bookC 1 2 b, bookT b, bookM b, .tab true evK b.evs] := by
  have hc := clone_ev true b.evs hn
  obtain ⟨evs, made, clock, es⟩ := b
  cases made
  all_goals
    refine Tri.of Try.func9 rfl Try.call9 rfl ?_
    refine Goods.fin 2000 [.c (.of hc)] mixed Try.func9 ?_
    show Yes _
    repeat' apply And.intro
    (all_goals first | rfl | assumption | trivial | omega | (simp [-List.getD_eq_getElem?_getD] <;> omega) | (simp (disch := omega) only [w64, wu64] <;> omega) | (simp (disch := omega) [-List.getD_eq_getElem?_getD, List.getD_cons_zero, List.getD_cons_succ, kCast_self, dfl_pair, dfl_int, w64, wu64] <;> omega) | (rw [Bool.eq_iff_iff]; simp (disch := omega) [-List.getD_eq_getElem?_getD, List.getD_cons_zero, List.getD_cons_succ, kCast_self, dfl_pair, dfl_int, w64, wu64] <;> omega) | (simp_all [-List.getD_eq_getElem?_getD] <;> omega))
end Go.Proofs.Ytkeedpjdadgaeaa.E
