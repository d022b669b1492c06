/- NoteApart: the law's contract. -/
import Derived.Test.YtkeedpjdadgaeaaL18b
namespace Go.Proofs.Ytkeedpjdadgaeaa.E
open Go
set_option maxRecDepth 100000

/-- The events of one worker. -/
def ofW (w : Int) (l : List EvT) : List EvT := l.filter fun e => decide (e.1 = w)
theorem snoc_ind {P : List EvT → Prop} (h0 : P []) (h1 : ∀ l e, P l → P (l ++ [e])) : ∀ n (l : List EvT), l.length = n → P l
  | 0, l, h => by rw [List.eq_nil_of_length_eq_zero h]; exact h0
  | n + 1, l, h => by
    have hne : l ≠ [] := by intro he; rw [he] at h; simp at h
    rw [← List.dropLast_concat_getLast hne]
    exact h1 _ _ (snoc_ind h0 h1 n _ (by simp; omega))
theorem find_split (w : Int) (l : List EvT) : (findI l w = -1 ∧ ∀ y ∈ l, y.1 ≠ w) ∨ ∃ p x s, l = p ++ x :: s ∧ x.1 = w ∧ (∀ y ∈ s, y.1 ≠ w) ∧ findI l w = if evEnd_ x = 0 then (p.length : Int) else -1 := by
  refine snoc_ind (P := fun l => (findI l w = -1 ∧ ∀ y ∈ l, y.1 ≠ w) ∨ ∃ p x s, l = p ++ x :: s ∧ x.1 = w ∧ (∀ y ∈ s, y.1 ≠ w) ∧ findI l w = if evEnd_ x = 0 then (p.length : Int) else -1) (.inl ⟨rfl, by simp⟩) (fun l e ih => ?_) _ l rfl
  rw [findI_snoc]
  by_cases he : e.1 = w
  · right
    exact ⟨l, e, [], by simp, he, by simp, by rw [if_pos he]⟩
  · rw [if_neg he]
    rcases ih with ⟨h1, h2⟩ | ⟨p, x, s, h1, h2, h3, h4⟩
    · left
      refine ⟨h1, fun y hy => ?_⟩
      rcases List.mem_append.1 hy with hy | hy
      · exact h2 y hy
      · rw [List.mem_singleton.1 hy]; exact he
    · right
      refine ⟨p, x, s ++ [e], by rw [h1]; simp, h2, fun y hy => ?_, h4⟩
      rcases List.mem_append.1 hy with hy | hy
      · exact h3 y hy
      · rw [List.mem_singleton.1 hy]; exact he
theorem ofW_none {w : Int} {l : List EvT} (h : ∀ y ∈ l, y.1 ≠ w) : ofW w l = [] := List.filter_eq_nil_iff.2 fun y hy => by simpa using h y hy
theorem ofW_split {w : Int} {p s : List EvT} {x : EvT} (hx : x.1 = w) (hs : ∀ y ∈ s, y.1 ≠ w) : ofW w (p ++ x :: s) = ofW w p ++ [x] := by
  have := ofW_none hs
  unfold ofW at this ⊢
  rw [List.filter_append, List.filter_cons, if_pos (by simpa using hx), this]
theorem find_ofW (w : Int) (l : List EvT) : (findI l w < 0 ∧ findI (ofW w l) w < 0) ∨ ∃ i j : Nat, i < l.length ∧ j < (ofW w l).length ∧ findI l w = (i : Int) ∧ findI (ofW w l) w = (j : Int) ∧ l.getD i evD = (ofW w l).getD j evD ∧ ∀ e : EvT, e.1 = w → ofW w (l.set i e) = (ofW w l).set j e := by
  rcases find_split w l with ⟨h1, h2⟩ | ⟨p, x, s, h1, h2, h3, h4⟩
  · left
    rw [ofW_none h2]
    exact ⟨by omega, by show (-1 : Int) < 0; omega⟩
  · have hW : ofW w l = ofW w p ++ [x] := by rw [h1]; exact ofW_split h2 h3
    by_cases h0 : evEnd_ x = 0
    · right
      rw [if_pos h0] at h4
      refine ⟨p.length, (ofW w p).length, by rw [h1]; simp, by rw [hW]; simp, h4, by rw [hW, findI_snoc, if_pos h2, if_pos h0], ?_, fun e he => ?_⟩
      · rw [hW, getD_append_last, h1]; simp [List.getD]
      · rw [hW, h1]
        have e1 : (p ++ x :: s).set p.length e = p ++ e :: s := by simp
        rw [e1, ofW_split he h3]
        simp
    · left
      rw [if_neg h0] at h4
      exact ⟨by omega, by rw [hW, findI_snoc, if_pos h2, if_neg h0]; omega⟩
theorem ofW_set_other {w : Int} {l : List EvT} {i : Nat} {e : EvT} (hi : i < l.length) (h1 : (l.getD i evD).1 ≠ w) (h2 : e.1 ≠ w) : ofW w (l.set i e) = ofW w l := by
  have e0 : l = l.take i ++ l.getD i evD :: l.drop (i + 1) := by
    have : l.getD i evD = l[i] := by simp [List.getD, hi]
    rw [this, List.getElem_cons_drop, List.take_append_drop]
  have e1 : l.set i e = l.take i ++ e :: l.drop (i + 1) := by rw [List.set_eq_take_append_cons_drop, if_pos hi]
  unfold ofW
  rw [e1]
  conv => rhs; rw [e0]
  rw [List.filter_append, List.filter_append, List.filter_cons, List.filter_cons, if_neg (by simpa using h2), if_neg (by simpa using h1)]
/-- A call, done to a book. -/
def actB (b : BookS) (a : ActT) : BookS :=
  if a.1 = 0 then (if findI b.evs a.2.1 < 0 then beginB b a.2.1 a.2.2.2.1.1 a.2.2.2.1.2 a.2.2.1 else b)
  else if a.1 = 1 then (if findI b.evs a.2.1 < 0 then b else setB b (findI b.evs a.2.1).toNat (stepE (evAt b (findI b.evs a.2.1).toNat)))
  else if a.1 = 2 then (if findI b.evs a.2.1 < 0 then b else if 0 < evPt (evAt b (findI b.evs a.2.1).toNat) then b else setB b (findI b.evs a.2.1).toNat (countE (evAt b (findI b.evs a.2.1).toNat) a.2.2.2.2.1 a.2.2.2.2.2 a.2.2.1))
  else if a.1 = 3 then (if findI b.evs a.2.1 < 0 then b else endB b (findI b.evs a.2.1).toNat a.2.1 (endE (evAt b (findI b.evs a.2.1).toNat) a.2.2.2.2.1 a.2.2.2.2.2 a.2.2.1))
  else b
theorem actB_ok {b : BookS} (hb : BookOk b) {a : ActT} (hs : ¬ a.2.2.1 < 1) : BookOk (actB b a) ∧ (actB b a).evs.length ≤ b.evs.length + 1 := by
  unfold actB
  by_cases hf : findI b.evs a.2.1 < 0
  · simp only [if_pos hf]
    have hb' := hb.begin (w := a.2.1) (k := a.2.2.2.1.1) (n := a.2.2.2.1.2) (s := a.2.2.1) hf
    have hl : (beginB b a.2.1 a.2.2.2.1.1 a.2.2.2.1.2 a.2.2.1).evs.length = b.evs.length + 1 := by rw [(begin_evs ..).1]; simp
    repeat' split
    all_goals first | exact ⟨hb', by omega⟩ | exact ⟨hb, by omega⟩
  · simp only [if_neg hf]
    obtain ⟨i, hi, h1, h2, h3, h4⟩ := hb.yes (w := a.2.1) (by omega)
    simp only [h1, Int.toNat_natCast]
    have l1 : ∀ e, (setB b i e).evs.length ≤ b.evs.length + 1 := fun e => by show (b.evs.set i e).length ≤ _; rw [List.length_set]; omega
    have l2 : ∀ e, (endB b i a.2.1 e).evs.length ≤ b.evs.length + 1 := fun e => by show (b.evs.set i e).length ≤ _; rw [List.length_set]; omega
    repeat' split
    all_goals first
      | exact ⟨hb, by omega⟩
      | exact ⟨hb.set rfl rfl hi, l1 _⟩
      | exact ⟨hb.end h3 (show a.2.2.1 ≠ 0 by omega) hi h1, l2 _⟩
/-- What is done for the worker is done to its own book alike; for another one, it leaves it as it is. -/
theorem actB_ofW {b o : BookS} {w : Int} {a : ActT} (hb : BookOk b) (h : o.evs = ofW w b.evs) : (a.2.1 = w → (actB o a).evs = ofW w (actB b a).evs) ∧ (a.2.1 ≠ w → ofW w (actB b a).evs = ofW w b.evs) := by
  constructor
  · intro hw
    unfold actB
    rw [h, hw]
    have hsn : ∀ k n s : Int, (beginB o w k n s).evs = ofW w (beginB b w k n s).evs := by
      intro k n s
      rw [(begin_evs ..).1, (begin_evs ..).1, h]
      unfold ofW
      rw [List.filter_append]; simp
    rcases find_ofW w b.evs with ⟨h1, h2⟩ | ⟨i, j, hi, hj, h1, h2, h3, h4⟩
    · simp only [if_pos h1, if_pos h2]
      repeat' split
      all_goals first | exact hsn _ _ _ | exact h
    · simp only [h1, h2, if_neg (show ¬ ((i : Int) < 0) by omega), if_neg (show ¬ ((j : Int) < 0) by omega), Int.toNat_natCast]
      have e0 : evAt o j = evAt b i := by unfold evAt; rw [h]; exact h3.symm
      have ew : (evAt b i).1 = w := by
        have := (findK_spec (l := b.evs) (w := w) (k := b.evs.length) (by show 0 ≤ findI b.evs w; omega)).1
        rw [show (findK b.evs w b.evs.length) = (i : Int) from h1, Int.toNat_natCast] at this
        exact this
      rw [e0]
      repeat' split
      all_goals first
        | exact h
        | (show o.evs.set j _ = ofW w (b.evs.set i _); rw [h]; refine (h4 _ ?_).symm; exact ew)
  · intro hw
    have hsn : ∀ k n s : Int, ofW w (beginB b a.2.1 k n s).evs = ofW w b.evs := by
      intro k n s
      rw [(begin_evs ..).1]
      unfold ofW
      rw [List.filter_append]; simp [hw]
    unfold actB
    by_cases hf : findI b.evs a.2.1 < 0
    · simp only [if_pos hf]
      repeat' split
      all_goals first | exact hsn _ _ _ | rfl
    · simp only [if_neg hf]
      obtain ⟨i, hi, h1, h2, h3, h4⟩ := hb.yes (w := a.2.1) (by omega)
      simp only [h1, Int.toNat_natCast]
      have hne : (b.evs.getD i evD).1 ≠ w := by show (evAt b i).1 ≠ w; rw [h3]; exact hw
      repeat' split
      all_goals first
        | rfl
        | exact ofW_set_other hi hne hne

noncomputable abbrev gApart (xs : List ActT) : Frm := ⟨En, 5, Try.f5.ntmps, [.tab false actK xs], .bl true, gones 1⟩
/-- What two books have. -/
abbrev twoB (xs : List ActT) (b o : BookS) : List AObj := [.tab false actK xs, bookC 2 3 b, bookT b, bookM b, bookC 5 6 o, bookT o, bookM o]
abbrev apT (xs : List ActT) (w : Int) (k : Nat) : Tm := [(0, .slice 0 0 xs.length), (1, .int .i64 w), (5, .ptr 1 0 0), (6, .ptr 4 0 0), (19, .slice 0 0 xs.length), (20, .int .i64 xs.length), (21, .int .i64 k)]
/-- The events of the worker are picked. -/
theorem apart_2 (xs : List ActT) (w : Int) (l : List EvT) (o : BookS) (ho : o.evs = ofW w l) (hl : l.length ≤ 200) : ∀ (j k : Nat), k + j = l.length → Goods (gApart xs) ⟨.none, lp Try.f5 2, [(1, .int .i64 w), (6, .ptr 1 0 0), (11, .slice 4 0 (ofW w (l.take k)).length), (82, .slice 5 0 l.length), (83, .int .i64 l.length), (84, .int .i64 k)], hp [.tab false actK xs, bookC 2 3 o, bookT o, bookM o, .tab true evK (ofW w (l.take k)), .tab true evK l]⟩
  | 0, k, h => by
    obtain rfl : k = l.length := by omega
    rw [List.take_length]
    have hle : (ofW w l).length ≤ l.length := List.length_filter_le ..
    have he := events_tri o (by rw [ho]; omega)
    have hs := same_tri true true (ofW w l) (by omega)
    rw [ho] at he
    obtain ⟨evs, made, clock, es⟩ := o
    simp only at ho
    cases made
    all_goals
      refine Goods.fin 2000 [.b false, .c (.of he), .c (.of hs)] mixed Try.func5 ?_
      show Yes _
      repeat' apply And.intro
      (all_goals first | rfl | assumption | trivial | omega | (simp [-List.getD_eq_getElem?_getD] <;> omega) | (simp (disch := omega) only [w64, wu64] <;> omega) | (simp (disch := omega) [-List.getD_eq_getElem?_getD, List.getD_cons_zero, List.getD_cons_succ, kCast_self, dfl_pair, dfl_int, w64, wu64] <;> omega) | (rw [Bool.eq_iff_iff]; simp (disch := omega) [-List.getD_eq_getElem?_getD, List.getD_cons_zero, List.getD_cons_succ, kCast_self, dfl_pair, dfl_int, w64, wu64] <;> omega) | (simp_all [-List.getD_eq_getElem?_getD] <;> omega))
  | j + 1, k, h => by
    have ih := apart_2 xs w l o ho hl j (k + 1) (by omega)
    have hle : (ofW w (l.take k)).length ≤ 200 := by
      have := List.length_filter_le (fun e : EvT => decide (e.1 = w)) (l.take k)
      rw [List.length_take] at this
      unfold ofW; omega
    have ht : l.take (k + 1) = l.take k ++ [l.getD k evD] := by rw [List.take_add_one]; simp [List.getD, show k < l.length by omega]
    by_cases hw : (l.getD k evD).1 = w
    · have e : ofW w (l.take (k + 1)) = ofW w (l.take k) ++ [l.getD k evD] := by rw [ht]; unfold ofW; rw [List.filter_append]; simp [-List.getD_eq_getElem?_getD, hw]
      rw [e] at ih
      have q : ((l.getD k evD).1 == w) = true := by simpa using hw
      obtain ⟨evs, made, clock, es⟩ := o
      cases made
      all_goals
        refine Goods.to 2000 [.b true, .b true, .l, .stop] mixed (ih) (by kernel_rfl) ?_
        show Yes _
        repeat' apply And.intro
        all_goals (try exact q)
        (all_goals first | rfl | assumption | trivial | omega | (simp [-List.getD_eq_getElem?_getD] <;> omega) | (simp (disch := omega) only [w64, wu64] <;> omega) | (simp (disch := omega) [-List.getD_eq_getElem?_getD, List.getD_cons_zero, List.getD_cons_succ, kCast_self, dfl_pair, dfl_int, w64, wu64] <;> omega) | (rw [Bool.eq_iff_iff]; simp (disch := omega) [-List.getD_eq_getElem?_getD, List.getD_cons_zero, List.getD_cons_succ, kCast_self, dfl_pair, dfl_int, w64, wu64] <;> omega) | (simp_all [-List.getD_eq_getElem?_getD] <;> omega))
    · have e : ofW w (l.take (k + 1)) = ofW w (l.take k) := by rw [ht]; unfold ofW; rw [List.filter_append]; simp [-List.getD_eq_getElem?_getD, hw]
      rw [e] at ih
      have q : ((l.getD k evD).1 == w) = false := by simpa using hw
      obtain ⟨evs, made, clock, es⟩ := o
      cases made
      all_goals
        refine Goods.to 2000 [.b true, .b false, .l, .stop] mixed (ih) (by kernel_rfl) ?_
        show Yes _
        repeat' apply And.intro
        all_goals (try exact q)
        (all_goals first | rfl | assumption | trivial | omega | (simp [-List.getD_eq_getElem?_getD] <;> omega) | (simp (disch := omega) only [w64, wu64] <;> omega) | (simp (disch := omega) [-List.getD_eq_getElem?_getD, List.getD_cons_zero, List.getD_cons_succ, kCast_self, dfl_pair, dfl_int, w64, wu64] <;> omega) | (rw [Bool.eq_iff_iff]; simp (disch := omega) [-List.getD_eq_getElem?_getD, List.getD_cons_zero, List.getD_cons_succ, kCast_self, dfl_pair, dfl_int, w64, wu64] <;> omega) | (simp_all [-List.getD_eq_getElem?_getD] <;> omega))
def pidB (q : Bool) : Nat := match q with
  | true => 1
  | false => 4
abbrev inT (xs : List ActT) (w : Int) (k : Nat) (v : Int) : Tm := [(0, .slice 0 0 xs.length), (1, .int .i64 w), (5, .ptr 1 0 0), (6, .ptr 4 0 0), (8, .ptr 8 0 0), (19, .slice 0 0 xs.length), (20, .int .i64 xs.length), (21, .int .i64 k), (28, .slice 7 0 2), (29, .int .i64 2), (30, .int .i64 v)]
abbrev inO (xs : List ActT) (b o : BookS) (a : ActT) : List AObj := [.tab false actK xs, bookC 2 3 b, bookT b, bookM b, bookC 5 6 o, bookT o, bookM o, .row 1 [.ptr 1 0 0, .ptr 4 0 0], actC a]
set_option maxHeartbeats 4000000 in
/-- The call is done to the book that x points to. -/
theorem apart_do (xs : List ActT) (w : Int) (k : Nat) (v v' : Int) (hv : IntKind.i64.wrap (v + 1) = v') (q : Bool) (a : ActT) (x : BookS) (hx : BookOk x) (hn : x.evs.length < 1000) (y : BookS) (G : BookS → Prop)
    (hG : G (actB x a))
    (next : ∀ x', G x' → Goods (gApart xs) ⟨.none, lp Try.f5 1, inT xs w k v', hp (match q with | true => inO xs x' y a | false => inO xs y x' a)⟩) :
    Goods (gApart xs) ⟨.none, rg Try.f5 14, (10, .ptr (pidB q) 0 0) :: inT xs w k v, hp (match q with | true => inO xs x y a | false => inO xs y x a)⟩ := by
  have next := next _ hG
  unfold actB at next
  by_cases k0 : a.1 = 0
  · rw [if_pos k0] at next
    have g0 : (a.1 == 0) = true := by simpa using k0
    by_cases hf : findI x.evs a.2.1 < 0
    · rw [if_pos hf] at next
      have h2 := hx.no hf
      have c2 := begin_yes x a.2.1 a.2.2.2.1.1 a.2.2.2.1.2 a.2.2.1 (by omega) h2
      have em := (begin_evs x a.2.1 a.2.2.2.1.1 a.2.2.2.1.2 a.2.2.1).2
      generalize beginB x a.2.1 a.2.2.2.1.1 a.2.2.2.1.2 a.2.2.1 = x' at *
      obtain ⟨evs', made', clock', es'⟩ := x'
      simp only at em
      subst em
      obtain ⟨evs, made, clock, es⟩ := x
      obtain ⟨yevs, ymade, yclock, yes⟩ := y
      cases q
      all_goals cases made
      all_goals cases ymade
      all_goals
        refine Goods.to 2000 [.b true, .c (.of c2), .l, .stop] mixed (next) (by kernel_rfl) ?_
        show Yes _
        repeat' apply And.intro
        all_goals (try first | exact g0 | exact hv)
        (all_goals first | rfl | assumption | trivial | omega | (simp [-List.getD_eq_getElem?_getD] <;> omega) | (simp (disch := omega) only [w64, wu64] <;> omega) | (simp (disch := omega) [-List.getD_eq_getElem?_getD, List.getD_cons_zero, List.getD_cons_succ, kCast_self, dfl_pair, dfl_int, w64, wu64] <;> omega) | (rw [Bool.eq_iff_iff]; simp (disch := omega) [-List.getD_eq_getElem?_getD, List.getD_cons_zero, List.getD_cons_succ, kCast_self, dfl_pair, dfl_int, w64, wu64] <;> omega) | (simp_all [-List.getD_eq_getElem?_getD] <;> omega))
    · rw [if_neg hf] at next
      obtain ⟨i, hi, h1, h2, h3, h4⟩ := hx.yes (w := a.2.1) (by omega)
      have c2 := begin_no x a.2.1 a.2.2.2.1.1 a.2.2.2.1.2 a.2.2.1 i hi h2
      obtain ⟨evs, made, clock, es⟩ := x
      obtain ⟨yevs, ymade, yclock, yes⟩ := y
      cases made
      · simp [getB] at h2
      cases q
      all_goals cases ymade
      all_goals
        refine Goods.to 2000 [.b true, .c (.of c2), .l, .stop] mixed (next) (by kernel_rfl) ?_
        show Yes _
        repeat' apply And.intro
        all_goals (try first | exact g0 | exact hv)
        (all_goals first | rfl | assumption | trivial | omega | (simp [-List.getD_eq_getElem?_getD] <;> omega) | (simp (disch := omega) only [w64, wu64] <;> omega) | (simp (disch := omega) [-List.getD_eq_getElem?_getD, List.getD_cons_zero, List.getD_cons_succ, kCast_self, dfl_pair, dfl_int, w64, wu64] <;> omega) | (rw [Bool.eq_iff_iff]; simp (disch := omega) [-List.getD_eq_getElem?_getD, List.getD_cons_zero, List.getD_cons_succ, kCast_self, dfl_pair, dfl_int, w64, wu64] <;> omega) | (simp_all [-List.getD_eq_getElem?_getD] <;> omega))
  · rw [if_neg k0] at next
    have g0 : (a.1 == 0) = false := by simpa using k0
    by_cases k1 : a.1 = 1
    · rw [if_pos k1] at next
      have g1 : (a.1 == 1) = true := by simpa using k1
      by_cases hf : findI x.evs a.2.1 < 0
      · rw [if_pos hf] at next
        have h2 := hx.no hf
        have c2 := step_no x a.2.1 h2
        obtain ⟨evs, made, clock, es⟩ := x
        obtain ⟨yevs, ymade, yclock, yes⟩ := y
        cases q
        all_goals cases made
        all_goals cases ymade
        all_goals
          refine Goods.to 2000 [.b false, .b true, .c (.of c2), .l, .stop] mixed (next) (by kernel_rfl) ?_
          show Yes _
          repeat' apply And.intro
          all_goals (try first | exact g0 | exact g1 | exact hv)
          (all_goals first | rfl | assumption | trivial | omega | (simp [-List.getD_eq_getElem?_getD] <;> omega) | (simp (disch := omega) only [w64, wu64] <;> omega) | (simp (disch := omega) [-List.getD_eq_getElem?_getD, List.getD_cons_zero, List.getD_cons_succ, kCast_self, dfl_pair, dfl_int, w64, wu64] <;> omega) | (rw [Bool.eq_iff_iff]; simp (disch := omega) [-List.getD_eq_getElem?_getD, List.getD_cons_zero, List.getD_cons_succ, kCast_self, dfl_pair, dfl_int, w64, wu64] <;> omega) | (simp_all [-List.getD_eq_getElem?_getD] <;> omega))
      · rw [if_neg hf] at next
        obtain ⟨i, hi, h1, h2, h3, h4⟩ := hx.yes (w := a.2.1) (by omega)
        rw [h1, Int.toNat_natCast] at next
        have c2 := step_yes x a.2.1 i hi h2
        obtain ⟨evs, made, clock, es⟩ := x
        obtain ⟨yevs, ymade, yclock, yes⟩ := y
        cases made
        · simp [getB] at h2
        cases q
        all_goals cases ymade
        all_goals
          refine Goods.to 2000 [.b false, .b true, .c (.of c2), .l, .stop] mixed (next) (by kernel_rfl) ?_
          show Yes _
          repeat' apply And.intro
          all_goals (try first | exact g0 | exact g1 | exact hv)
          (all_goals first | rfl | assumption | trivial | omega | (simp [-List.getD_eq_getElem?_getD] <;> omega) | (simp (disch := omega) only [w64, wu64] <;> omega) | (simp (disch := omega) [-List.getD_eq_getElem?_getD, List.getD_cons_zero, List.getD_cons_succ, kCast_self, dfl_pair, dfl_int, w64, wu64] <;> omega) | (rw [Bool.eq_iff_iff]; simp (disch := omega) [-List.getD_eq_getElem?_getD, List.getD_cons_zero, List.getD_cons_succ, kCast_self, dfl_pair, dfl_int, w64, wu64] <;> omega) | (simp_all [-List.getD_eq_getElem?_getD] <;> omega))
    · rw [if_neg k1] at next
      have g1 : (a.1 == 1) = false := by simpa using k1
      by_cases k2 : a.1 = 2
      · rw [if_pos k2] at next
        have g2 : (a.1 == 2) = true := by simpa using k2
        by_cases hf : findI x.evs a.2.1 < 0
        · rw [if_pos hf] at next
          have h2 := hx.no hf
          have c2 := count_none x a.2.1 a.2.2.2.2.1 a.2.2.2.2.2 a.2.2.1 h2
          obtain ⟨evs, made, clock, es⟩ := x
          obtain ⟨yevs, ymade, yclock, yes⟩ := y
          cases q
          all_goals cases made
          all_goals cases ymade
          all_goals
            refine Goods.to 2000 [.b false, .b false, .b true, .c (.of c2), .l, .stop] mixed (next) (by kernel_rfl) ?_
            show Yes _
            repeat' apply And.intro
            all_goals (try first | exact g0 | exact g1 | exact g2 | exact hv)
            (all_goals first | rfl | assumption | trivial | omega | (simp [-List.getD_eq_getElem?_getD] <;> omega) | (simp (disch := omega) only [w64, wu64] <;> omega) | (simp (disch := omega) [-List.getD_eq_getElem?_getD, List.getD_cons_zero, List.getD_cons_succ, kCast_self, dfl_pair, dfl_int, w64, wu64] <;> omega) | (rw [Bool.eq_iff_iff]; simp (disch := omega) [-List.getD_eq_getElem?_getD, List.getD_cons_zero, List.getD_cons_succ, kCast_self, dfl_pair, dfl_int, w64, wu64] <;> omega) | (simp_all [-List.getD_eq_getElem?_getD] <;> omega))
        · rw [if_neg hf] at next
          obtain ⟨i, hi, h1, h2, h3, h4⟩ := hx.yes (w := a.2.1) (by omega)
          rw [h1, Int.toNat_natCast] at next
          by_cases hpt : 0 < evPt (evAt x i)
          · rw [if_pos hpt] at next
            have c2 := count_done x a.2.1 a.2.2.2.2.1 a.2.2.2.2.2 a.2.2.1 i hi h2 hpt
            obtain ⟨evs, made, clock, es⟩ := x
            obtain ⟨yevs, ymade, yclock, yes⟩ := y
            cases made
            · simp [getB] at h2
            cases q
            all_goals cases ymade
            all_goals
              refine Goods.to 2000 [.b false, .b false, .b true, .c (.of c2), .l, .stop] mixed (next) (by kernel_rfl) ?_
              show Yes _
              repeat' apply And.intro
              all_goals (try first | exact g0 | exact g1 | exact g2 | exact hv)
              (all_goals first | rfl | assumption | trivial | omega | (simp [-List.getD_eq_getElem?_getD] <;> omega) | (simp (disch := omega) only [w64, wu64] <;> omega) | (simp (disch := omega) [-List.getD_eq_getElem?_getD, List.getD_cons_zero, List.getD_cons_succ, kCast_self, dfl_pair, dfl_int, w64, wu64] <;> omega) | (rw [Bool.eq_iff_iff]; simp (disch := omega) [-List.getD_eq_getElem?_getD, List.getD_cons_zero, List.getD_cons_succ, kCast_self, dfl_pair, dfl_int, w64, wu64] <;> omega) | (simp_all [-List.getD_eq_getElem?_getD] <;> omega))
          · rw [if_neg hpt] at next
            have c2 := count_yes x a.2.1 a.2.2.2.2.1 a.2.2.2.2.2 a.2.2.1 i hi h2 hpt
            obtain ⟨evs, made, clock, es⟩ := x
            obtain ⟨yevs, ymade, yclock, yes⟩ := y
            cases made
            · simp [getB] at h2
            cases q
            all_goals cases ymade
            all_goals
              refine Goods.to 2000 [.b false, .b false, .b true, .c (.of c2), .l, .stop] mixed (next) (by kernel_rfl) ?_
              show Yes _
              repeat' apply And.intro
              all_goals (try first | exact g0 | exact g1 | exact g2 | exact hv)
              (all_goals first | rfl | assumption | trivial | omega | (simp [-List.getD_eq_getElem?_getD] <;> omega) | (simp (disch := omega) only [w64, wu64] <;> omega) | (simp (disch := omega) [-List.getD_eq_getElem?_getD, List.getD_cons_zero, List.getD_cons_succ, kCast_self, dfl_pair, dfl_int, w64, wu64] <;> omega) | (rw [Bool.eq_iff_iff]; simp (disch := omega) [-List.getD_eq_getElem?_getD, List.getD_cons_zero, List.getD_cons_succ, kCast_self, dfl_pair, dfl_int, w64, wu64] <;> omega) | (simp_all [-List.getD_eq_getElem?_getD] <;> omega))
      · rw [if_neg k2] at next
        have g2 : (a.1 == 2) = false := by simpa using k2
        by_cases k3 : a.1 = 3
        · rw [if_pos k3] at next
          have g3 : (a.1 == 3) = true := by simpa using k3
          by_cases hf : findI x.evs a.2.1 < 0
          · rw [if_pos hf] at next
            have h2 := hx.no hf
            have c2 := end_no x a.2.1 a.2.2.2.2.1 a.2.2.2.2.2 a.2.2.1 h2
            obtain ⟨evs, made, clock, es⟩ := x
            obtain ⟨yevs, ymade, yclock, yes⟩ := y
            cases q
            all_goals cases made
            all_goals cases ymade
            all_goals
              refine Goods.to 2000 [.b false, .b false, .b false, .b true, .c (.of c2), .l, .stop] mixed (next) (by kernel_rfl) ?_
              show Yes _
              repeat' apply And.intro
              all_goals (try first | exact g0 | exact g1 | exact g2 | exact g3 | exact hv)
              (all_goals first | rfl | assumption | trivial | omega | (simp [-List.getD_eq_getElem?_getD] <;> omega) | (simp (disch := omega) only [w64, wu64] <;> omega) | (simp (disch := omega) [-List.getD_eq_getElem?_getD, List.getD_cons_zero, List.getD_cons_succ, kCast_self, dfl_pair, dfl_int, w64, wu64] <;> omega) | (rw [Bool.eq_iff_iff]; simp (disch := omega) [-List.getD_eq_getElem?_getD, List.getD_cons_zero, List.getD_cons_succ, kCast_self, dfl_pair, dfl_int, w64, wu64] <;> omega) | (simp_all [-List.getD_eq_getElem?_getD] <;> omega))
          · rw [if_neg hf] at next
            obtain ⟨i, hi, h1, h2, h3, h4⟩ := hx.yes (w := a.2.1) (by omega)
            rw [h1, Int.toNat_natCast] at next
            have c2 := end_yes x a.2.1 a.2.2.2.2.1 a.2.2.2.2.2 a.2.2.1 i hi h2
            obtain ⟨evs, made, clock, es⟩ := x
            obtain ⟨yevs, ymade, yclock, yes⟩ := y
            cases made
            · simp [getB] at h2
            cases q
            all_goals cases ymade
            all_goals
              refine Goods.to 2000 [.b false, .b false, .b false, .b true, .c (.of c2), .l, .stop] mixed (next) (by kernel_rfl) ?_
              show Yes _
              repeat' apply And.intro
              all_goals (try first | exact g0 | exact g1 | exact g2 | exact g3 | exact hv)
              (all_goals first | rfl | assumption | trivial | omega | (simp [-List.getD_eq_getElem?_getD] <;> omega) | (simp (disch := omega) only [w64, wu64] <;> omega) | (simp (disch := omega) [-List.getD_eq_getElem?_getD, List.getD_cons_zero, List.getD_cons_succ, kCast_self, dfl_pair, dfl_int, w64, wu64] <;> omega) | (rw [Bool.eq_iff_iff]; simp (disch := omega) [-List.getD_eq_getElem?_getD, List.getD_cons_zero, List.getD_cons_succ, kCast_self, dfl_pair, dfl_int, w64, wu64] <;> omega) | (simp_all [-List.getD_eq_getElem?_getD] <;> omega))
        · rw [if_neg k3] at next
          have g3 : (a.1 == 3) = false := by simpa using k3
          obtain ⟨evs, made, clock, es⟩ := x
          obtain ⟨yevs, ymade, yclock, yes⟩ := y
          cases q
          all_goals cases made
          all_goals cases ymade
          all_goals
            refine Goods.to 2000 [.b false, .b false, .b false, .b false, .l, .stop] mixed (next) (by kernel_rfl) ?_
            show Yes _
            repeat' apply And.intro
            all_goals (try first | exact g0 | exact g1 | exact g2 | exact g3 | exact hv)
            (all_goals first | rfl | assumption | trivial | omega | (simp [-List.getD_eq_getElem?_getD] <;> omega) | (simp (disch := omega) only [w64, wu64] <;> omega) | (simp (disch := omega) [-List.getD_eq_getElem?_getD, List.getD_cons_zero, List.getD_cons_succ, kCast_self, dfl_pair, dfl_int, w64, wu64] <;> omega) | (rw [Bool.eq_iff_iff]; simp (disch := omega) [-List.getD_eq_getElem?_getD, List.getD_cons_zero, List.getD_cons_succ, kCast_self, dfl_pair, dfl_int, w64, wu64] <;> omega) | (simp_all [-List.getD_eq_getElem?_getD] <;> omega))
/-- Behind both books. -/
theorem apart_in2 (xs : List ActT) (w : Int) (k : Nat) (hk : k < 200) (a : ActT) (b o : BookS) (next : Goods (gApart xs) ⟨.none, lp Try.f5 0, apT xs w (k + 1), hp (twoB xs b o)⟩) : Goods (gApart xs) ⟨.none, lp Try.f5 1, inT xs w k 2, hp (inO xs b o a)⟩ := by
  obtain ⟨evs, made, clock, es⟩ := b
  obtain ⟨yevs, ymade, yclock, yes⟩ := o
  cases made
  all_goals cases ymade
  all_goals
    refine Goods.to 2000 [.b false, .l, .stop] mixed (next) (by kernel_rfl) ?_
    show Yes _
    repeat' apply And.intro
    (all_goals first | rfl | assumption | trivial | omega | (simp [-List.getD_eq_getElem?_getD] <;> omega) | (simp (disch := omega) only [w64, wu64] <;> omega) | (simp (disch := omega) [-List.getD_eq_getElem?_getD, List.getD_cons_zero, List.getD_cons_succ, kCast_self, dfl_pair, dfl_int, w64, wu64] <;> omega) | (rw [Bool.eq_iff_iff]; simp (disch := omega) [-List.getD_eq_getElem?_getD, List.getD_cons_zero, List.getD_cons_succ, kCast_self, dfl_pair, dfl_int, w64, wu64] <;> omega) | (simp_all [-List.getD_eq_getElem?_getD] <;> omega))
theorem apart_in1 (xs : List ActT) (w : Int) (k : Nat) (hk : k < 200) (a : ActT) (b o : BookS) (ho : BookOk o) (hn : o.evs.length < 1000) (next : ∀ o', o' = (if a.2.1 = w then actB o a else o) → Goods (gApart xs) ⟨.none, lp Try.f5 0, apT xs w (k + 1), hp (twoB xs b o')⟩) : Goods (gApart xs) ⟨.none, lp Try.f5 1, inT xs w k 1, hp (inO xs b o a)⟩ := by
  by_cases hw : a.2.1 = w
  · have g : (a.2.1 != w) = false := by simpa using hw
    have hd := apart_do xs w k 1 2 (w64 (by omega) (by omega)) false a o ho hn b (fun x => x = actB o a) rfl fun x' hx' => apart_in2 xs w k hk a b x' (next x' (by rw [if_pos hw]; exact hx'))
    simp only at hd
    obtain ⟨evs, made, clock, es⟩ := b
    obtain ⟨yevs, ymade, yclock, yes⟩ := o
    cases made
    all_goals cases ymade
    all_goals
      refine Goods.to 2000 [.b true, .b false, .upto 14] mixed (hd) (by kernel_rfl) ?_
      show Yes _
      repeat' apply And.intro
      all_goals (try exact g)
      (all_goals first | rfl | assumption | trivial | omega | (simp [-List.getD_eq_getElem?_getD] <;> omega) | (simp (disch := omega) only [w64, wu64] <;> omega) | (simp (disch := omega) [-List.getD_eq_getElem?_getD, List.getD_cons_zero, List.getD_cons_succ, kCast_self, dfl_pair, dfl_int, w64, wu64] <;> omega) | (rw [Bool.eq_iff_iff]; simp (disch := omega) [-List.getD_eq_getElem?_getD, List.getD_cons_zero, List.getD_cons_succ, kCast_self, dfl_pair, dfl_int, w64, wu64] <;> omega) | (simp_all [-List.getD_eq_getElem?_getD] <;> omega))
  · have g : (a.2.1 != w) = true := by simpa using hw
    have hd := apart_in2 xs w k hk a b o (next o (by rw [if_neg hw]))
    obtain ⟨evs, made, clock, es⟩ := b
    obtain ⟨yevs, ymade, yclock, yes⟩ := o
    cases made
    all_goals cases ymade
    all_goals
      refine Goods.to 2000 [.b true, .b true, .l, .stop] mixed (hd) (by kernel_rfl) ?_
      show Yes _
      repeat' apply And.intro
      all_goals (try exact g)
      (all_goals first | rfl | assumption | trivial | omega | (simp [-List.getD_eq_getElem?_getD] <;> omega) | (simp (disch := omega) only [w64, wu64] <;> omega) | (simp (disch := omega) [-List.getD_eq_getElem?_getD, List.getD_cons_zero, List.getD_cons_succ, kCast_self, dfl_pair, dfl_int, w64, wu64] <;> omega) | (rw [Bool.eq_iff_iff]; simp (disch := omega) [-List.getD_eq_getElem?_getD, List.getD_cons_zero, List.getD_cons_succ, kCast_self, dfl_pair, dfl_int, w64, wu64] <;> omega) | (simp_all [-List.getD_eq_getElem?_getD] <;> omega))
theorem apart_in0 (xs : List ActT) (w : Int) (k : Nat) (hk : k < 200) (a : ActT) (b o : BookS) (hb : BookOk b) (hnb : b.evs.length < 1000) (ho : BookOk o) (hn : o.evs.length < 1000) (next : ∀ b' o', b' = actB b a → o' = (if a.2.1 = w then actB o a else o) → Goods (gApart xs) ⟨.none, lp Try.f5 0, apT xs w (k + 1), hp (twoB xs b' o')⟩) : Goods (gApart xs) ⟨.none, lp Try.f5 1, inT xs w k 0, hp (inO xs b o a)⟩ := by
  have hd := apart_do xs w k 0 1 (w64 (by omega) (by omega)) true a b hb hnb o (fun x => x = actB b a) rfl fun x' hx' => apart_in1 xs w k hk a x' o ho hn fun o' ho' => next x' o' hx' ho'
  simp only at hd
  obtain ⟨evs, made, clock, es⟩ := b
  obtain ⟨yevs, ymade, yclock, yes⟩ := o
  cases made
  all_goals cases ymade
  all_goals
    refine Goods.to 2000 [.b true, .upto 14] mixed (hd) (by kernel_rfl) ?_
    show Yes _
    repeat' apply And.intro
    (all_goals first | rfl | assumption | trivial | omega | (simp [-List.getD_eq_getElem?_getD] <;> omega) | (simp (disch := omega) only [w64, wu64] <;> omega) | (simp (disch := omega) [-List.getD_eq_getElem?_getD, List.getD_cons_zero, List.getD_cons_succ, kCast_self, dfl_pair, dfl_int, w64, wu64] <;> omega) | (rw [Bool.eq_iff_iff]; simp (disch := omega) [-List.getD_eq_getElem?_getD, List.getD_cons_zero, List.getD_cons_succ, kCast_self, dfl_pair, dfl_int, w64, wu64] <;> omega) | (simp_all [-List.getD_eq_getElem?_getD] <;> omega))
theorem apart_0 (xs : List ActT) (w : Int) (hx : xs.length ≤ 200) : ∀ (j k : Nat) (b o : BookS), k + j = xs.length → BookOk b → BookOk o → o.evs = ofW w b.evs → b.evs.length ≤ k → Goods (gApart xs) ⟨.none, lp Try.f5 0, apT xs w k, hp (twoB xs b o)⟩
  | 0, k, b, o, h, hb, ho, he, hn => by
    have ih := apart_2 xs w b.evs o he (by omega) b.evs.length 0 (by omega)
    have c := events_tri b (by omega)
    rw [show ofW w (b.evs.take 0) = [] from rfl] at ih
    obtain ⟨evs, made, clock, es⟩ := b
    obtain ⟨yevs, ymade, yclock, yes⟩ := o
    cases made
    all_goals cases ymade
    all_goals
      refine Goods.to 2000 [.b false, .c (.of c), .l, .stop] mixed (ih) (by kernel_rfl) ?_
      show Yes _
      repeat' apply And.intro
      (all_goals first | rfl | assumption | trivial | omega | (simp [-List.getD_eq_getElem?_getD] <;> omega) | (simp (disch := omega) only [w64, wu64] <;> omega) | (simp (disch := omega) [-List.getD_eq_getElem?_getD, List.getD_cons_zero, List.getD_cons_succ, kCast_self, dfl_pair, dfl_int, w64, wu64] <;> omega) | (rw [Bool.eq_iff_iff]; simp (disch := omega) [-List.getD_eq_getElem?_getD, List.getD_cons_zero, List.getD_cons_succ, kCast_self, dfl_pair, dfl_int, w64, wu64] <;> omega) | (simp_all [-List.getD_eq_getElem?_getD] <;> omega))
  | j + 1, k, b, o, h, hb, ho, he, hn => by
    obtain ⟨a, ha⟩ : ∃ a, xs.getD k actD = a := ⟨_, rfl⟩
    have hle : o.evs.length ≤ b.evs.length := by rw [he]; exact List.length_filter_le ..
    by_cases hstep : a.2.2.1 < 1
    · have hs : decide ((xs.getD k actD).2.2.1 < 1) = true := by rw [ha]; exact decide_eq_true hstep
      have ih := apart_0 xs w hx j (k + 1) b o (by omega) hb ho he (by omega)
      obtain ⟨evs, made, clock, es⟩ := b
      obtain ⟨yevs, ymade, yclock, yes⟩ := o
      cases made
      all_goals cases ymade
      all_goals
        refine Goods.to 2000 [.b true, .b true, .l, .stop] mixed (ih) (by kernel_rfl) ?_
        show Yes _
        repeat' apply And.intro
        all_goals (try exact hs)
        (all_goals first | rfl | assumption | trivial | omega | (simp [-List.getD_eq_getElem?_getD] <;> omega) | (simp (disch := omega) only [w64, wu64] <;> omega) | (simp (disch := omega) [-List.getD_eq_getElem?_getD, List.getD_cons_zero, List.getD_cons_succ, kCast_self, dfl_pair, dfl_int, w64, wu64] <;> omega) | (rw [Bool.eq_iff_iff]; simp (disch := omega) [-List.getD_eq_getElem?_getD, List.getD_cons_zero, List.getD_cons_succ, kCast_self, dfl_pair, dfl_int, w64, wu64] <;> omega) | (simp_all [-List.getD_eq_getElem?_getD] <;> omega))
    · have hs : decide ((xs.getD k actD).2.2.1 < 1) = false := by rw [ha]; exact decide_eq_false hstep
      obtain ⟨hb', hl'⟩ := actB_ok hb hstep
      obtain ⟨hw1, hw2⟩ := actB_ofW (w := w) (a := a) hb he
      have hd := apart_in0 xs w k (by omega) a b o hb (by omega) ho (by omega) fun b' o' e1 e2 => by
        subst e1
        by_cases hw : a.2.1 = w
        · rw [if_pos hw] at e2
          subst e2
          exact apart_0 xs w hx j (k + 1) _ _ (by omega) hb' (actB_ok ho hstep).1 (hw1 hw) (by omega)
        · rw [if_neg hw] at e2
          subst e2
          exact apart_0 xs w hx j (k + 1) _ _ (by omega) hb' ho (by rw [he, hw2 hw]) (by omega)
      subst ha
      obtain ⟨evs, made, clock, es⟩ := b
      obtain ⟨yevs, ymade, yclock, yes⟩ := o
      cases made
      all_goals cases ymade
      all_goals
        refine Goods.to 2000 [.b true, .b false, .l, .stop] mixed (hd) (by kernel_rfl) ?_
        show Yes _
        repeat' apply And.intro
        all_goals (try exact hs)
        (all_goals first | rfl | assumption | trivial | omega | (simp [-List.getD_eq_getElem?_getD] <;> omega) | (simp (disch := omega) only [w64, wu64] <;> omega) | (simp (disch := omega) [-List.getD_eq_getElem?_getD, List.getD_cons_zero, List.getD_cons_succ, kCast_self, dfl_pair, dfl_int, w64, wu64] <;> omega) | (rw [Bool.eq_iff_iff]; simp (disch := omega) [-List.getD_eq_getElem?_getD, List.getD_cons_zero, List.getD_cons_succ, kCast_self, dfl_pair, dfl_int, w64, wu64] <;> omega) | (simp_all [-List.getD_eq_getElem?_getD] <;> omega))
theorem NoteApart_tri (xs : List ActT) (w : Int) (hl : xs.length ≤ 9223372036854775807) : Tri En 5 [.slice 0 0 xs.length, .int .i64 w] [.tab false actK xs] (.bl true) (gones 1) := by
  by_cases hx : xs.length ≤ 200
  · have ih := apart_0 xs w hx xs.length 0 book0 book0 (by omega) book0_ok book0_ok rfl (by decide)
    refine Tri.of Try.func5 rfl Try.call5 rfl ?_
    refine Goods.to 2000 [.c (.of speaks_tri), .b false, .l, .stop] mixed (ih) (by kernel_rfl) ?_
    show Yes _
    repeat' apply And.intro
    (all_goals first | rfl | assumption | trivial | omega | (simp [-List.getD_eq_getElem?_getD] <;> omega) | (simp (disch := omega) only [w64, wu64] <;> omega) | (simp (disch := omega) [-List.getD_eq_getElem?_getD, List.getD_cons_zero, List.getD_cons_succ, kCast_self, dfl_pair, dfl_int, w64, wu64] <;> omega) | (rw [Bool.eq_iff_iff]; simp (disch := omega) [-List.getD_eq_getElem?_getD, List.getD_cons_zero, List.getD_cons_succ, kCast_self, dfl_pair, dfl_int, w64, wu64] <;> omega) | (simp_all [-List.getD_eq_getElem?_getD] <;> omega))
  · refine Tri.of Try.func5 rfl Try.call5 rfl ?_
    refine Goods.fin 2000 [.c (.of speaks_tri), .b true] mixed Try.func5 ?_
    show Yes _
    repeat' apply And.intro
    (all_goals first | rfl | assumption | trivial | omega | (simp [-List.getD_eq_getElem?_getD] <;> omega) | (simp (disch := omega) only [w64, wu64] <;> omega) | (simp (disch := omega) [-List.getD_eq_getElem?_getD, List.getD_cons_zero, List.getD_cons_succ, kCast_self, dfl_pair, dfl_int, w64, wu64] <;> omega) | (rw [Bool.eq_iff_iff]; simp (disch := omega) [-List.getD_eq_getElem?_getD, List.getD_cons_zero, List.getD_cons_succ, kCast_self, dfl_pair, dfl_int, w64, wu64] <;> omega) | (simp_all [-List.getD_eq_getElem?_getD] <;> omega))
theorem NoteApart_law (d : dats ([(false, (.slice (.pair (.int .i64) (.pair (.int .i64) (.pair (.int .i64) (.pair (.pair (.int .i64) (.pair (.int .i64) .unit)) (.pair (.pair (.int .i64) (.pair (.int .i64) .unit)) .unit))))))), (false, (.int .i64))] : List (Bool × Sh))) (hd : datsOk ([(false, (.slice (.pair (.int .i64) (.pair (.int .i64) (.pair (.int .i64) (.pair (.pair (.int .i64) (.pair (.int .i64) .unit)) (.pair (.pair (.int .i64) (.pair (.int .i64) .unit)) .unit))))))), (false, (.int .i64))] : List (Bool × Sh)) d) : Tri En 5 (argsOf ([(false, (.slice (.pair (.int .i64) (.pair (.int .i64) (.pair (.int .i64) (.pair (.pair (.int .i64) (.pair (.int .i64) .unit)) (.pair (.pair (.int .i64) (.pair (.int .i64) .unit)) .unit))))))), (false, (.int .i64))] : List (Bool × Sh)) d 0) (objsOf ([(false, (.slice (.pair (.int .i64) (.pair (.int .i64) (.pair (.int .i64) (.pair (.pair (.int .i64) (.pair (.int .i64) .unit)) (.pair (.pair (.int .i64) (.pair (.int .i64) .unit)) .unit))))))), (false, (.int .i64))] : List (Bool × Sh)) d) (.bl true) (gones (cnts ([(false, (.slice (.pair (.int .i64) (.pair (.int .i64) (.pair (.int .i64) (.pair (.pair (.int .i64) (.pair (.int .i64) .unit)) (.pair (.pair (.int .i64) (.pair (.int .i64) .unit)) .unit))))))), (false, (.int .i64))] : List (Bool × Sh)))) := by
  obtain ⟨xs, w, _⟩ := d
  obtain ⟨⟨h1, _⟩, _⟩ := hd
  exact NoteApart_tri xs w (maxLen_le h1)
end Go.Proofs.Ytkeedpjdadgaeaa.E
