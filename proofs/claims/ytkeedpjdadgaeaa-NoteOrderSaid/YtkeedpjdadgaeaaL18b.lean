/- NoteOwn, NoteOrder: the laws' contracts. -/
import Derived.Test.YtkeedpjdadgaeaaL18a
namespace Go.Proofs.Ytkeedpjdadgaeaa.E
open Go
set_option maxRecDepth 100000

/-- The first k events a step further. -/
def incK (l : List EvT) (k : Nat) : List EvT := (l.take k).map stepE ++ l.drop k
theorem incK_len (l : List EvT) (k : Nat) : (incK l k).length = l.length := by simp [incK]; omega
theorem incK_get {l : List EvT} {k : Nat} (h : k < l.length) : (incK l k).getD k evD = l.getD k evD := by
  unfold incK
  simp [List.getD, List.getElem?_append, show min k l.length = k by omega]
theorem incK_set {l : List EvT} {k : Nat} (h : k < l.length) : (incK l k).set k (stepE (l.getD k evD)) = incK l (k + 1) := by
  unfold incK
  have h1 : l.take (k + 1) = l.take k ++ [l.getD k evD] := by rw [List.take_add_one]; simp [List.getD, h]
  have h2 : l.drop k = l.getD k evD :: l.drop (k + 1) := by rw [List.drop_eq_getElem_cons h]; simp [List.getD, h]
  rw [h1, h2, List.set_append]
  simp [show min k l.length = k by omega]
theorem incK_zero (l : List EvT) : incK l 0 = l := by simp [incK]
noncomputable abbrev gOwn (xs : List ActT) : Frm := ⟨En, 3, Try.f3.ntmps, [.tab false actK xs], .bl true, gones 1⟩
theorem own_2 (xs : List ActT) (l : List EvT) (hl : l.length ≤ 200) : ∀ (j k : Nat), k + j = l.length → Goods (gOwn xs) ⟨.none, lp Try.f3 2, [(6, .slice 1 0 l.length), (8, .slice 2 0 l.length), (48, .slice 2 0 l.length), (49, .int .i64 l.length), (50, .int .i64 k)], hp [.tab false actK xs, .tab true evK (incK l l.length), .tab true evK (incK l k)]⟩
  | 0, k, h => by
    obtain rfl : k = l.length := by omega
    have hi := incK_len l l.length
    have hs := same_tri true true (incK l l.length) (by omega)
    refine Goods.fin 2000 [.b false, .c (.of hs)] mixed Try.func3 ?_
    show Yes _
    repeat' apply And.intro
    (all_goals first | rfl | assumption | trivial | omega | (simp [-List.getD_eq_getElem?_getD] <;> omega) | (simp (disch := omega) only [w64, wu64] <;> omega) | (simp (disch := omega) [-List.getD_eq_getElem?_getD, List.getD_cons_zero, List.getD_cons_succ, kCast_self, dfl_pair, dfl_int, w64, wu64] <;> omega) | (rw [Bool.eq_iff_iff]; simp (disch := omega) [-List.getD_eq_getElem?_getD, List.getD_cons_zero, List.getD_cons_succ, kCast_self, dfl_pair, dfl_int, w64, wu64] <;> omega) | (simp_all [-List.getD_eq_getElem?_getD] <;> omega))
  | j + 1, k, h => by
    have ih := own_2 xs l hl j (k + 1) (by omega)
    have hi := incK_len l k
    have e1 := incK_get (l := l) (k := k) (by omega)
    have e2 := incK_set (l := l) (k := k) (by omega)
    rw [← e1] at e2
    refine Goods.to 2000 [.b true, .l, .stop] mixed (ih) (by kernel_rfl) ?_
    show Yes _
    repeat' apply And.intro
    all_goals (try exact e2)
    (all_goals first | rfl | assumption | trivial | omega | (simp [-List.getD_eq_getElem?_getD] <;> omega) | (simp (disch := omega) only [w64, wu64] <;> omega) | (simp (disch := omega) [-List.getD_eq_getElem?_getD, List.getD_cons_zero, List.getD_cons_succ, kCast_self, dfl_pair, dfl_int, w64, wu64] <;> omega) | (rw [Bool.eq_iff_iff]; simp (disch := omega) [-List.getD_eq_getElem?_getD, List.getD_cons_zero, List.getD_cons_succ, kCast_self, dfl_pair, dfl_int, w64, wu64] <;> omega) | (simp_all [-List.getD_eq_getElem?_getD] <;> omega))
theorem own_1 (xs : List ActT) (b : BookS) (hl : b.evs.length ≤ 200) : ∀ (j k : Nat), k + j = b.evs.length → Goods (gOwn xs) ⟨.none, lp Try.f3 1, [(3, .ptr 1 0 0), (6, .slice 4 0 b.evs.length), (33, .slice 4 0 b.evs.length), (34, .int .i64 b.evs.length), (35, .int .i64 k)], hp [.tab false actK xs, bookC 2 3 b, bookT b, bookM b, .tab true evK (incK b.evs k)]⟩
  | 0, k, h => by
    obtain rfl : k = b.evs.length := by omega
    have ih := own_2 xs b.evs hl b.evs.length 0 (by omega)
    have he := events_tri b (by omega)
    rw [incK_zero] at ih
    obtain ⟨evs, made, clock, es⟩ := b
    cases made
    all_goals
      refine Goods.to 2000 [.b false, .c (.of he), .l, .stop] mixed (ih) (by kernel_rfl) ?_
      show Yes _
      repeat' apply And.intro
      (all_goals first | rfl | assumption | trivial | omega | (simp [-List.getD_eq_getElem?_getD] <;> omega) | (simp (disch := omega) only [w64, wu64] <;> omega) | (simp (disch := omega) [-List.getD_eq_getElem?_getD, List.getD_cons_zero, List.getD_cons_succ, kCast_self, dfl_pair, dfl_int, w64, wu64] <;> omega) | (rw [Bool.eq_iff_iff]; simp (disch := omega) [-List.getD_eq_getElem?_getD, List.getD_cons_zero, List.getD_cons_succ, kCast_self, dfl_pair, dfl_int, w64, wu64] <;> omega) | (simp_all [-List.getD_eq_getElem?_getD] <;> omega))
  | j + 1, k, h => by
    have ih := own_1 xs b hl j (k + 1) (by omega)
    have hi := incK_len b.evs k
    have e1 := incK_get (l := b.evs) (k := k) (by omega)
    have e2 := incK_set (l := b.evs) (k := k) (by omega)
    rw [← e1] at e2
    obtain ⟨evs, made, clock, es⟩ := b
    cases made
    all_goals
      refine Goods.to 2000 [.b true, .l, .stop] mixed (ih) (by kernel_rfl) ?_
      show Yes _
      repeat' apply And.intro
      all_goals (try exact e2)
      (all_goals first | rfl | assumption | trivial | omega | (simp [-List.getD_eq_getElem?_getD] <;> omega) | (simp (disch := omega) only [w64, wu64] <;> omega) | (simp (disch := omega) [-List.getD_eq_getElem?_getD, List.getD_cons_zero, List.getD_cons_succ, kCast_self, dfl_pair, dfl_int, w64, wu64] <;> omega) | (rw [Bool.eq_iff_iff]; simp (disch := omega) [-List.getD_eq_getElem?_getD, List.getD_cons_zero, List.getD_cons_succ, kCast_self, dfl_pair, dfl_int, w64, wu64] <;> omega) | (simp_all [-List.getD_eq_getElem?_getD] <;> omega))
theorem begin_evs (b : BookS) (w k n s : Int) : (beginB b w k n s).evs = b.evs ++ [(w, (k, n), (0, 0), 0, s, 0, 0)] ∧ (beginB b w k n s).made = true := by
  unfold beginB; cases b.made <;> exact ⟨rfl, rfl⟩
set_option maxHeartbeats 1000000 in
theorem own_0 (xs : List ActT) (hx : xs.length ≤ 200) : ∀ (j k : Nat) (b : BookS), k + j = xs.length → BookOk b → b.evs.length ≤ k → Goods (gOwn xs) ⟨.none, lp Try.f3 0, [(0, .slice 0 0 xs.length), (3, .ptr 1 0 0), (15, .slice 0 0 xs.length), (16, .int .i64 xs.length), (17, .int .i64 k)], hp [.tab false actK xs, bookC 2 3 b, bookT b, bookM b]⟩
  | 0, k, b, h, hb, hn => by
    have ih := own_1 xs b (by omega) b.evs.length 0 (by omega)
    have he := events_tri b (by omega)
    rw [incK_zero] at ih
    obtain ⟨evs, made, clock, es⟩ := b
    cases made
    all_goals
      refine Goods.to 2000 [.b false, .c (.of he), .l, .stop] mixed (ih) (by kernel_rfl) ?_
      show Yes _
      repeat' apply And.intro
      (all_goals first | rfl | assumption | trivial | omega | (simp [-List.getD_eq_getElem?_getD] <;> omega) | (simp (disch := omega) only [w64, wu64] <;> omega) | (simp (disch := omega) [-List.getD_eq_getElem?_getD, List.getD_cons_zero, List.getD_cons_succ, kCast_self, dfl_pair, dfl_int, w64, wu64] <;> omega) | (rw [Bool.eq_iff_iff]; simp (disch := omega) [-List.getD_eq_getElem?_getD, List.getD_cons_zero, List.getD_cons_succ, kCast_self, dfl_pair, dfl_int, w64, wu64] <;> omega) | (simp_all [-List.getD_eq_getElem?_getD] <;> omega))
  | j + 1, k, b, h, hb, hn => by
    obtain ⟨a, ha⟩ : ∃ a, xs.getD k actD = a := ⟨_, rfl⟩
    by_cases hstep : a.2.2.1 < 1
    · have hs : decide ((xs.getD k actD).2.2.1 ≥ 1) = false := by rw [ha]; exact decide_eq_false (by omega)
      have ih := own_0 xs hx j (k + 1) b (by omega) hb (by omega)
      obtain ⟨evs, made, clock, es⟩ := b
      cases made
      all_goals
        refine Goods.to 2000 [.b true, .b false, .l, .stop] mixed (ih) (by kernel_rfl) ?_
        show Yes _
        repeat' apply And.intro
        all_goals (try exact hs)
        (all_goals first | rfl | assumption | trivial | omega | (simp [-List.getD_eq_getElem?_getD] <;> omega) | (simp (disch := omega) only [w64, wu64] <;> omega) | (simp (disch := omega) [-List.getD_eq_getElem?_getD, List.getD_cons_zero, List.getD_cons_succ, kCast_self, dfl_pair, dfl_int, w64, wu64] <;> omega) | (rw [Bool.eq_iff_iff]; simp (disch := omega) [-List.getD_eq_getElem?_getD, List.getD_cons_zero, List.getD_cons_succ, kCast_self, dfl_pair, dfl_int, w64, wu64] <;> omega) | (simp_all [-List.getD_eq_getElem?_getD] <;> omega))
    · have hs : decide ((xs.getD k actD).2.2.1 ≥ 1) = true := by rw [ha]; exact decide_eq_true (by omega)
      by_cases hf : 0 ≤ findI b.evs a.2.1
      · obtain ⟨i, hi, h1, h2, h3, h4⟩ := hb.yes hf
        have ih := own_0 xs hx j (k + 1) b (by omega) hb (by omega)
        have c2 := begin_no b a.2.1 a.2.2.2.1.1 a.2.2.2.1.2 a.2.2.1 i hi h2
        subst ha
        obtain ⟨evs, made, clock, es⟩ := b
        cases made
        · simp [getB] at h2
        refine Goods.to 2000 [.b true, .b true, .c (.of c2), .l, .stop] mixed (ih) (by kernel_rfl) ?_
        show Yes _
        repeat' apply And.intro
        all_goals (try exact hs)
        (all_goals first | rfl | assumption | trivial | omega | (simp [-List.getD_eq_getElem?_getD] <;> omega) | (simp (disch := omega) only [w64, wu64] <;> omega) | (simp (disch := omega) [-List.getD_eq_getElem?_getD, List.getD_cons_zero, List.getD_cons_succ, kCast_self, dfl_pair, dfl_int, w64, wu64] <;> omega) | (rw [Bool.eq_iff_iff]; simp (disch := omega) [-List.getD_eq_getElem?_getD, List.getD_cons_zero, List.getD_cons_succ, kCast_self, dfl_pair, dfl_int, w64, wu64] <;> omega) | (simp_all [-List.getD_eq_getElem?_getD] <;> omega))
      · have h2 := hb.no (w := a.2.1) (by omega)
        have hb' := hb.begin (w := a.2.1) (k := a.2.2.2.1.1) (n := a.2.2.2.1.2) (s := a.2.2.1) (by omega)
        obtain ⟨el, em⟩ := begin_evs b a.2.1 a.2.2.2.1.1 a.2.2.2.1.2 a.2.2.1
        have ell : (beginB b a.2.1 a.2.2.2.1.1 a.2.2.2.1.2 a.2.2.1).evs.length = b.evs.length + 1 := by rw [el]; simp
        have ih := own_0 xs hx j (k + 1) _ (by omega) hb' (by omega)
        have c2 := begin_yes b a.2.1 a.2.2.2.1.1 a.2.2.2.1.2 a.2.2.1 (by omega) h2
        generalize beginB b a.2.1 a.2.2.2.1.1 a.2.2.2.1.2 a.2.2.1 = b' at *
        subst ha
        obtain ⟨evs', made', clock', es'⟩ := b'
        simp only at em
        subst em
        obtain ⟨evs, made, clock, es⟩ := b
        cases made
        all_goals
          refine Goods.to 2000 [.b true, .b true, .c (.of c2), .l, .stop] mixed (ih) (by kernel_rfl) ?_
          show Yes _
          repeat' apply And.intro
          all_goals (try exact hs)
          (all_goals first | rfl | assumption | trivial | omega | (simp [-List.getD_eq_getElem?_getD] <;> omega) | (simp (disch := omega) only [w64, wu64] <;> omega) | (simp (disch := omega) [-List.getD_eq_getElem?_getD, List.getD_cons_zero, List.getD_cons_succ, kCast_self, dfl_pair, dfl_int, w64, wu64] <;> omega) | (rw [Bool.eq_iff_iff]; simp (disch := omega) [-List.getD_eq_getElem?_getD, List.getD_cons_zero, List.getD_cons_succ, kCast_self, dfl_pair, dfl_int, w64, wu64] <;> omega) | (simp_all [-List.getD_eq_getElem?_getD] <;> omega))
theorem NoteOwn_tri (xs : List ActT) (hl : xs.length ≤ 9223372036854775807) : Tri En 3 [.slice 0 0 xs.length] [.tab false actK xs] (.bl true) (gones 1) := by
  by_cases hx : xs.length ≤ 200
  · have ih := own_0 xs hx xs.length 0 book0 (by omega) book0_ok (by decide)
    refine Tri.of Try.func3 rfl Try.call3 rfl ?_
    refine Goods.to 2000 [.c (.of speaks_tri), .b false, .l, .stop] mixed (ih) (by kernel_rfl) ?_
    show Yes _
    repeat' apply And.intro
    (all_goals first | rfl | assumption | trivial | omega | (simp [-List.getD_eq_getElem?_getD] <;> omega) | (simp (disch := omega) only [w64, wu64] <;> omega) | (simp (disch := omega) [-List.getD_eq_getElem?_getD, List.getD_cons_zero, List.getD_cons_succ, kCast_self, dfl_pair, dfl_int, w64, wu64] <;> omega) | (rw [Bool.eq_iff_iff]; simp (disch := omega) [-List.getD_eq_getElem?_getD, List.getD_cons_zero, List.getD_cons_succ, kCast_self, dfl_pair, dfl_int, w64, wu64] <;> omega) | (simp_all [-List.getD_eq_getElem?_getD] <;> omega))
  · refine Tri.of Try.func3 rfl Try.call3 rfl ?_
    refine Goods.fin 2000 [.c (.of speaks_tri), .b true] mixed Try.func3 ?_
    show Yes _
    repeat' apply And.intro
    (all_goals first | rfl | assumption | trivial | omega | (simp [-List.getD_eq_getElem?_getD] <;> omega) | (simp (disch := omega) only [w64, wu64] <;> omega) | (simp (disch := omega) [-List.getD_eq_getElem?_getD, List.getD_cons_zero, List.getD_cons_succ, kCast_self, dfl_pair, dfl_int, w64, wu64] <;> omega) | (rw [Bool.eq_iff_iff]; simp (disch := omega) [-List.getD_eq_getElem?_getD, List.getD_cons_zero, List.getD_cons_succ, kCast_self, dfl_pair, dfl_int, w64, wu64] <;> omega) | (simp_all [-List.getD_eq_getElem?_getD] <;> omega))
theorem NoteOwn_law (d : dats ([(false, (.slice (.pair (.int .i64) (.pair (.int .i64) (.pair (.int .i64) (.pair (.pair (.int .i64) (.pair (.int .i64) .unit)) (.pair (.pair (.int .i64) (.pair (.int .i64) .unit)) .unit)))))))] : List (Bool × Sh))) (hd : datsOk ([(false, (.slice (.pair (.int .i64) (.pair (.int .i64) (.pair (.int .i64) (.pair (.pair (.int .i64) (.pair (.int .i64) .unit)) (.pair (.pair (.int .i64) (.pair (.int .i64) .unit)) .unit)))))))] : List (Bool × Sh)) d) : Tri En 3 (argsOf ([(false, (.slice (.pair (.int .i64) (.pair (.int .i64) (.pair (.int .i64) (.pair (.pair (.int .i64) (.pair (.int .i64) .unit)) (.pair (.pair (.int .i64) (.pair (.int .i64) .unit)) .unit)))))))] : List (Bool × Sh)) d 0) (objsOf ([(false, (.slice (.pair (.int .i64) (.pair (.int .i64) (.pair (.int .i64) (.pair (.pair (.int .i64) (.pair (.int .i64) .unit)) (.pair (.pair (.int .i64) (.pair (.int .i64) .unit)) .unit)))))))] : List (Bool × Sh)) d) (.bl true) (gones (cnts ([(false, (.slice (.pair (.int .i64) (.pair (.int .i64) (.pair (.int .i64) (.pair (.pair (.int .i64) (.pair (.int .i64) .unit)) (.pair (.pair (.int .i64) (.pair (.int .i64) .unit)) .unit)))))))] : List (Bool × Sh)))) := by
  obtain ⟨xs, _⟩ := d
  obtain ⟨⟨h1, _⟩, _⟩ := hd
  exact NoteOwn_tri xs (maxLen_le h1)

/-! NoteOrder. -/
/-- Of each worker all but the last event ended. -/
def OrdOk (l : List EvT) : Prop := ∀ i j, i < j → j < l.length → (l.getD j evD).1 = (l.getD i evD).1 → evEnd_ (l.getD i evD) ≠ 0
theorem ord_ended {l : List EvT} (h : OrdOk l) {w : Int} : ∀ {k : Nat}, k ≤ l.length → findK l w k < 0 → ∀ i, i < k → (l.getD i evD).1 = w → evEnd_ (l.getD i evD) ≠ 0
  | 0, _, _, i, hi, _ => by omega
  | k + 1, hk, hf, i, hi, hw => by
    simp only [findK] at hf
    by_cases h1 : (l.getD k evD).1 = w
    · by_cases hik : i = k
      · subst hik
        rw [if_pos h1] at hf
        intro h0
        rw [if_pos h0] at hf; omega
      · exact h i k (by omega) (by omega) (by rw [h1, hw])
    · rw [if_neg h1] at hf
      by_cases hik : i = k
      · subst hik; exact absurd hw h1
      · exact ord_ended h (by omega) hf i (by omega) hw
theorem OrdOk.snoc {l : List EvT} (h : OrdOk l) {e : EvT} (hf : findI l e.1 < 0) : OrdOk (l ++ [e]) := by
  intro i j hij hj hw
  rw [List.length_append, List.length_singleton] at hj
  rw [getD_append_left (show i < l.length by omega)] at hw ⊢
  by_cases hjl : j < l.length
  · rw [getD_append_left hjl] at hw; exact h i j hij hjl hw
  · obtain rfl : j = l.length := by omega
    rw [getD_append_last] at hw
    exact ord_ended h (Nat.le_refl _) hf i (by omega) hw.symm
theorem OrdOk.end {l : List EvT} (h : OrdOk l) {i : Nat} {e : EvT} (h1 : e.1 = (l.getD i evD).1) (h2 : evEnd_ e ≠ 0) (hi : i < l.length) : OrdOk (l.set i e) := by
  intro a b hab hb hw
  rw [List.length_set] at hb
  by_cases ha : i = a
  · subst ha; rw [getD_set_ev hi]; exact h2
  · rw [getD_set_ne ha] at hw ⊢
    by_cases hib : i = b
    · subst hib
      rw [getD_set_ev hi, h1] at hw
      exact h a i hab hb hw
    · rw [getD_set_ne hib] at hw; exact h a b hab hb hw
noncomputable abbrev gOrd (xs : List ActT) : Frm := ⟨En, 4, Try.f4.ntmps, [.tab false actK xs], .bl true, gones 1⟩
theorem ord_2 (xs : List ActT) (l : List EvT) (hl : l.length ≤ 200) (ho : OrdOk l) (i : Nat) (hi : i < l.length) (next : Goods (gOrd xs) ⟨.none, lp Try.f4 1, [(4, .int .i64 l.length), (8, .slice 1 0 l.length), (71, .slice 1 0 l.length), (72, .int .i64 l.length), (73, .int .i64 (i + 1 : Nat))], hp [.tab false actK xs, .tab true evK l]⟩) :
    ∀ (j k : Nat), (i + 1) + k + j = l.length → Goods (gOrd xs) ⟨.none, lp Try.f4 2, [(4, .int .i64 l.length), (8, .slice 1 0 l.length), (10, .ptr 2 0 0), (71, .slice 1 0 l.length), (72, .int .i64 l.length), (73, .int .i64 i), (81, .slice 1 (i + 1) (l.length - (i + 1))), (82, .int .i64 (l.length - (i + 1) : Nat)), (83, .int .i64 k)], hp [.tab false actK xs, .tab true evK l, .cells (enc evK (l.getD i evD))]⟩
  | 0, k, h => by
    refine Goods.to 2000 [.b false, .l, .stop] mixed (next) (by kernel_rfl) ?_
    show Yes _
    repeat' apply And.intro
    (all_goals first | rfl | assumption | trivial | omega | (simp [-List.getD_eq_getElem?_getD] <;> omega) | (simp (disch := omega) only [w64, wu64] <;> omega) | (simp (disch := omega) [-List.getD_eq_getElem?_getD, List.getD_cons_zero, List.getD_cons_succ, kCast_self, dfl_pair, dfl_int, w64, wu64] <;> omega) | (rw [Bool.eq_iff_iff]; simp (disch := omega) [-List.getD_eq_getElem?_getD, List.getD_cons_zero, List.getD_cons_succ, kCast_self, dfl_pair, dfl_int, w64, wu64] <;> omega) | (simp_all [-List.getD_eq_getElem?_getD] <;> omega))
  | j + 1, k, h => by
    have ih := ord_2 xs l hl ho i hi next j (k + 1) (by omega)
    by_cases hw : (l.getD (k + (i + 1)) evD).1 = (l.getD i evD).1
    · have hend := ho i (k + (i + 1)) (by omega) (by omega) hw
      have q1 : ((l.getD (k + (i + 1)) evD).1 == (l.getD i evD).1) = true := by simpa using hw
      have q2 : (evEnd_ (l.getD i evD) == 0) = false := by simpa using hend
      refine Goods.to 2000 [.b true, .s 91 (some true) true true, .b false, .l, .stop] mixed (ih) (by kernel_rfl) ?_
      show Yes _
      repeat' apply And.intro
      all_goals (try first | exact q1 | exact q2)
      (all_goals first | rfl | assumption | trivial | omega | (simp [-List.getD_eq_getElem?_getD] <;> omega) | (simp (disch := omega) only [w64, wu64] <;> omega) | (simp (disch := omega) [-List.getD_eq_getElem?_getD, List.getD_cons_zero, List.getD_cons_succ, kCast_self, dfl_pair, dfl_int, w64, wu64] <;> omega) | (rw [Bool.eq_iff_iff]; simp (disch := omega) [-List.getD_eq_getElem?_getD, List.getD_cons_zero, List.getD_cons_succ, kCast_self, dfl_pair, dfl_int, w64, wu64] <;> omega) | (simp_all [-List.getD_eq_getElem?_getD] <;> omega))
    · have q1 : ((l.getD (k + (i + 1)) evD).1 == (l.getD i evD).1) = false := by simpa using hw
      refine Goods.to 2000 [.b true, .s 91 (some false) true true, .l, .stop] mixed (ih) (by kernel_rfl) ?_
      show Yes _
      repeat' apply And.intro
      all_goals (try exact q1)
      (all_goals first | rfl | assumption | trivial | omega | (simp [-List.getD_eq_getElem?_getD] <;> omega) | (simp (disch := omega) only [w64, wu64] <;> omega) | (simp (disch := omega) [-List.getD_eq_getElem?_getD, List.getD_cons_zero, List.getD_cons_succ, kCast_self, dfl_pair, dfl_int, w64, wu64] <;> omega) | (rw [Bool.eq_iff_iff]; simp (disch := omega) [-List.getD_eq_getElem?_getD, List.getD_cons_zero, List.getD_cons_succ, kCast_self, dfl_pair, dfl_int, w64, wu64] <;> omega) | (simp_all [-List.getD_eq_getElem?_getD] <;> omega))
theorem ord_1 (xs : List ActT) (l : List EvT) (hl : l.length ≤ 200) (ho : OrdOk l) : ∀ (j i : Nat), i + j = l.length → Goods (gOrd xs) ⟨.none, lp Try.f4 1, [(4, .int .i64 l.length), (8, .slice 1 0 l.length), (71, .slice 1 0 l.length), (72, .int .i64 l.length), (73, .int .i64 i)], hp [.tab false actK xs, .tab true evK l]⟩
  | 0, i, h => by
    refine Goods.fin 2000 [.b false] mixed Try.func4 ?_
    show Yes _
    repeat' apply And.intro
    (all_goals first | rfl | assumption | trivial | omega | (simp [-List.getD_eq_getElem?_getD] <;> omega) | (simp (disch := omega) only [w64, wu64] <;> omega) | (simp (disch := omega) [-List.getD_eq_getElem?_getD, List.getD_cons_zero, List.getD_cons_succ, kCast_self, dfl_pair, dfl_int, w64, wu64] <;> omega) | (rw [Bool.eq_iff_iff]; simp (disch := omega) [-List.getD_eq_getElem?_getD, List.getD_cons_zero, List.getD_cons_succ, kCast_self, dfl_pair, dfl_int, w64, wu64] <;> omega) | (simp_all [-List.getD_eq_getElem?_getD] <;> omega))
  | j + 1, i, h => by
    have next := ord_1 xs l hl ho j (i + 1) (by omega)
    have ih := ord_2 xs l hl ho i (by omega) next (l.length - (i + 1)) 0 (by omega)
    have e1 : (IntKind.i64.wrap ((i : Int) + 1)).toNat = i + 1 := by rw [w64 (by omega) (by omega)]; omega
    have e2 : IntKind.i64.wrap ((i : Int) + 1) = (i : Int) + 1 := w64 (by omega) (by omega)
    refine Goods.to 2000 [.b true, .l, .stop] mixed (ih) (by kernel_rfl) ?_
    show Yes _
    repeat' apply And.intro
    all_goals (try simp only [e1, e2])
    (all_goals first | rfl | assumption | trivial | omega | (simp [-List.getD_eq_getElem?_getD] <;> omega) | (simp (disch := omega) only [w64, wu64] <;> omega) | (simp (disch := omega) [-List.getD_eq_getElem?_getD, List.getD_cons_zero, List.getD_cons_succ, kCast_self, dfl_pair, dfl_int, w64, wu64] <;> omega) | (rw [Bool.eq_iff_iff]; simp (disch := omega) [-List.getD_eq_getElem?_getD, List.getD_cons_zero, List.getD_cons_succ, kCast_self, dfl_pair, dfl_int, w64, wu64] <;> omega) | (simp_all [-List.getD_eq_getElem?_getD] <;> omega))
set_option maxHeartbeats 1000000 in
theorem ord_0 (xs : List ActT) (hx : xs.length ≤ 200) : ∀ (j k : Nat) (b : BookS), k + j = xs.length → BookOk b → OrdOk b.evs → b.evs.length ≤ k → Goods (gOrd xs) ⟨.none, lp Try.f4 0, [(0, .slice 0 0 xs.length), (3, .ptr 1 0 0), (4, .int .i64 b.evs.length), (18, .slice 0 0 xs.length), (19, .int .i64 xs.length), (20, .int .i64 k)], hp [.tab false actK xs, bookC 2 3 b, bookT b, bookM b]⟩
  | 0, k, b, h, hb, ho, hn => by
    have ih := ord_1 xs b.evs (by omega) ho b.evs.length 0 (by omega)
    have he := events_tri b (by omega)
    obtain ⟨evs, made, clock, es⟩ := b
    cases made
    all_goals
      refine Goods.to 2000 [.b false, .c (.of he), .l, .stop] mixed (ih) (by kernel_rfl) ?_
      show Yes _
      repeat' apply And.intro
      (all_goals first | rfl | assumption | trivial | omega | (simp [-List.getD_eq_getElem?_getD] <;> omega) | (simp (disch := omega) only [w64, wu64] <;> omega) | (simp (disch := omega) [-List.getD_eq_getElem?_getD, List.getD_cons_zero, List.getD_cons_succ, kCast_self, dfl_pair, dfl_int, w64, wu64] <;> omega) | (rw [Bool.eq_iff_iff]; simp (disch := omega) [-List.getD_eq_getElem?_getD, List.getD_cons_zero, List.getD_cons_succ, kCast_self, dfl_pair, dfl_int, w64, wu64] <;> omega) | (simp_all [-List.getD_eq_getElem?_getD] <;> omega))
  | j + 1, k, b, h, hb, ho, hn => by
    obtain ⟨a, ha⟩ : ∃ a, xs.getD k actD = a := ⟨_, rfl⟩
    by_cases hstep : a.2.2.1 < 1
    · have hs : decide ((xs.getD k actD).2.2.1 < 1) = true := by rw [ha]; exact decide_eq_true hstep
      have ih := ord_0 xs hx j (k + 1) b (by omega) hb ho (by omega)
      obtain ⟨evs, made, clock, es⟩ := b
      cases made
      all_goals
        refine Goods.to 2000 [.b true, .b true, .l, .stop] mixed (ih) (by kernel_rfl) ?_
        show Yes _
        repeat' apply And.intro
        all_goals (try exact hs)
        (all_goals first | rfl | assumption | trivial | omega | (simp [-List.getD_eq_getElem?_getD] <;> omega) | (simp (disch := omega) only [w64, wu64] <;> omega) | (simp (disch := omega) [-List.getD_eq_getElem?_getD, List.getD_cons_zero, List.getD_cons_succ, kCast_self, dfl_pair, dfl_int, w64, wu64] <;> omega) | (rw [Bool.eq_iff_iff]; simp (disch := omega) [-List.getD_eq_getElem?_getD, List.getD_cons_zero, List.getD_cons_succ, kCast_self, dfl_pair, dfl_int, w64, wu64] <;> omega) | (simp_all [-List.getD_eq_getElem?_getD] <;> omega))
    · have hs : decide ((xs.getD k actD).2.2.1 < 1) = false := by rw [ha]; exact decide_eq_false hstep
      by_cases k0 : a.1 = 0
      · have g0 : ((xs.getD k actD).1 == 0) = true := by rw [ha]; simpa using k0
        by_cases hf : 0 ≤ findI b.evs a.2.1
        · obtain ⟨i, hi, h1, h2, h3, h4⟩ := hb.yes hf
          have ih := ord_0 xs hx j (k + 1) b (by omega) hb ho (by omega)
          have c2 := begin_no b a.2.1 a.2.2.2.1.1 a.2.2.2.1.2 a.2.2.1 i hi h2
          subst ha
          obtain ⟨evs, made, clock, es⟩ := b
          cases made
          · simp [getB] at h2
          refine Goods.to 2000 [.b true, .b false, .b true, .c (.of c2), .l, .stop] mixed (ih) (by kernel_rfl) ?_
          show Yes _
          repeat' apply And.intro
          all_goals (try first | exact hs | exact g0)
          (all_goals first | rfl | assumption | trivial | omega | (simp [-List.getD_eq_getElem?_getD] <;> omega) | (simp (disch := omega) only [w64, wu64] <;> omega) | (simp (disch := omega) [-List.getD_eq_getElem?_getD, List.getD_cons_zero, List.getD_cons_succ, kCast_self, dfl_pair, dfl_int, w64, wu64] <;> omega) | (rw [Bool.eq_iff_iff]; simp (disch := omega) [-List.getD_eq_getElem?_getD, List.getD_cons_zero, List.getD_cons_succ, kCast_self, dfl_pair, dfl_int, w64, wu64] <;> omega) | (simp_all [-List.getD_eq_getElem?_getD] <;> omega))
        · have h2 := hb.no (w := a.2.1) (by omega)
          have hb' := hb.begin (w := a.2.1) (k := a.2.2.2.1.1) (n := a.2.2.2.1.2) (s := a.2.2.1) (by omega)
          obtain ⟨el, em⟩ := begin_evs b a.2.1 a.2.2.2.1.1 a.2.2.2.1.2 a.2.2.1
          have ell : (beginB b a.2.1 a.2.2.2.1.1 a.2.2.2.1.2 a.2.2.1).evs.length = b.evs.length + 1 := by rw [el]; simp
          have ho' : OrdOk (beginB b a.2.1 a.2.2.2.1.1 a.2.2.2.1.2 a.2.2.1).evs := by rw [el]; exact ho.snoc (by show findI b.evs a.2.1 < 0; omega)
          have ih := ord_0 xs hx j (k + 1) _ (by omega) hb' ho' (by omega)
          have c2 := begin_yes b a.2.1 a.2.2.2.1.1 a.2.2.2.1.2 a.2.2.1 (by omega) h2
          have c3 := events_tri (beginB b a.2.1 a.2.2.2.1.1 a.2.2.2.1.2 a.2.2.1) (by omega)
          have elast : (beginB b a.2.1 a.2.2.2.1.1 a.2.2.2.1.2 a.2.2.1).evs.getD b.evs.length evD = (a.2.1, (a.2.2.2.1.1, a.2.2.2.1.2), (0, 0), 0, a.2.2.1, 0, 0) := by rw [el, getD_append_last]
          generalize beginB b a.2.1 a.2.2.2.1.1 a.2.2.2.1.2 a.2.2.1 = b' at *
          subst ha
          obtain ⟨evs', made', clock', es'⟩ := b'
          simp only at em
          subst em
          obtain ⟨evs, made, clock, es⟩ := b
          simp only at elast ell hn
          have e0 : IntKind.i64.wrap ((evs.length : Int) + 1) = (evs.length : Int) + 1 := w64 (by omega) (by omega)
          have e1 : IntKind.i64.wrap ((evs.length : Int) + 1 - 1) = (evs.length : Int) := by rw [w64 (by omega) (by omega)]; omega
          cases made
          all_goals
            refine Goods.to 2000 [.b true, .b false, .b true, .c (.of c2), .c (.of c3), .s 44 (some false) true true, .b false, .l, .stop] mixed (ih) (by kernel_rfl) ?_
            show Yes _
            repeat' apply And.intro
            all_goals (try first | exact hs | exact g0)
            all_goals (try simp only [e0, e1, Int.toNat_natCast, Nat.add_zero])
            all_goals (try (rw [show dfl evK = evD from rfl, elast]; exact evNe_self (_, (_, _), (0, 0), 0, _, 0, 0)))
            (all_goals first | rfl | assumption | trivial | omega | (simp [-List.getD_eq_getElem?_getD] <;> omega) | (simp (disch := omega) only [w64, wu64] <;> omega) | (simp (disch := omega) [-List.getD_eq_getElem?_getD, List.getD_cons_zero, List.getD_cons_succ, kCast_self, dfl_pair, dfl_int, w64, wu64] <;> omega) | (rw [Bool.eq_iff_iff]; simp (disch := omega) [-List.getD_eq_getElem?_getD, List.getD_cons_zero, List.getD_cons_succ, kCast_self, dfl_pair, dfl_int, w64, wu64] <;> omega) | (simp_all [-List.getD_eq_getElem?_getD] <;> omega))
      · have g0 : ((xs.getD k actD).1 == 0) = false := by rw [ha]; simpa using k0
        by_cases k3 : a.1 = 3
        · have g3 : ((xs.getD k actD).1 == 3) = true := by rw [ha]; simpa using k3
          by_cases hf : 0 ≤ findI b.evs a.2.1
          · obtain ⟨i, hi, h1, h2, h3, h4⟩ := hb.yes hf
            have hb' := hb.end (i := i) (w0 := a.2.1) (e := endE (evAt b i) a.2.2.2.2.1 a.2.2.2.2.2 a.2.2.1) h3 (show a.2.2.1 ≠ 0 by omega) hi h1
            have ho' : OrdOk (endB b i a.2.1 (endE (evAt b i) a.2.2.2.2.1 a.2.2.2.2.2 a.2.2.1)).evs := ho.end (i := i) (e := endE (evAt b i) a.2.2.2.2.1 a.2.2.2.2.2 a.2.2.1) rfl (show a.2.2.1 ≠ 0 by omega) hi
            have ell : (endB b i a.2.1 (endE (evAt b i) a.2.2.2.2.1 a.2.2.2.2.2 a.2.2.1)).evs.length = b.evs.length := List.length_set ..
            have ih := ord_0 xs hx j (k + 1) _ (by omega) hb' ho' (by omega)
            have c2 := end_yes b a.2.1 a.2.2.2.2.1 a.2.2.2.2.2 a.2.2.1 i hi h2
            subst ha
            obtain ⟨evs, made, clock, es⟩ := b
            cases made
            · simp [getB] at h2
            refine Goods.to 2000 [.b true, .b false, .b false, .b true, .c (.of c2), .l, .stop] mixed (ih) (by kernel_rfl) ?_
            show Yes _
            repeat' apply And.intro
            all_goals (try first | exact hs | exact g0 | exact g3)
            (all_goals first | rfl | assumption | trivial | omega | (simp [-List.getD_eq_getElem?_getD, ell] <;> omega) | (simp (disch := omega) only [w64, wu64] <;> omega) | (simp (disch := omega) [-List.getD_eq_getElem?_getD, List.getD_cons_zero, List.getD_cons_succ, kCast_self, dfl_pair, dfl_int, w64, wu64, ell] <;> omega) | (rw [Bool.eq_iff_iff]; simp (disch := omega) [-List.getD_eq_getElem?_getD, List.getD_cons_zero, List.getD_cons_succ, kCast_self, dfl_pair, dfl_int, w64, wu64, ell] <;> omega) | (simp_all [-List.getD_eq_getElem?_getD] <;> omega))
          · have h2 := hb.no (w := a.2.1) (by omega)
            have ih := ord_0 xs hx j (k + 1) b (by omega) hb ho (by omega)
            have c2 := end_no b a.2.1 a.2.2.2.2.1 a.2.2.2.2.2 a.2.2.1 h2
            subst ha
            obtain ⟨evs, made, clock, es⟩ := b
            cases made
            all_goals
              refine Goods.to 2000 [.b true, .b false, .b false, .b true, .c (.of c2), .l, .stop] mixed (ih) (by kernel_rfl) ?_
              show Yes _
              repeat' apply And.intro
              all_goals (try first | exact hs | exact g0 | exact g3)
              (all_goals first | rfl | assumption | trivial | omega | (simp [-List.getD_eq_getElem?_getD] <;> omega) | (simp (disch := omega) only [w64, wu64] <;> omega) | (simp (disch := omega) [-List.getD_eq_getElem?_getD, List.getD_cons_zero, List.getD_cons_succ, kCast_self, dfl_pair, dfl_int, w64, wu64] <;> omega) | (rw [Bool.eq_iff_iff]; simp (disch := omega) [-List.getD_eq_getElem?_getD, List.getD_cons_zero, List.getD_cons_succ, kCast_self, dfl_pair, dfl_int, w64, wu64] <;> omega) | (simp_all [-List.getD_eq_getElem?_getD] <;> omega))
        · have g3 : ((xs.getD k actD).1 == 3) = false := by rw [ha]; simpa using k3
          have ih := ord_0 xs hx j (k + 1) b (by omega) hb ho (by omega)
          subst ha
          obtain ⟨evs, made, clock, es⟩ := b
          cases made
          all_goals
            refine Goods.to 2000 [.b true, .b false, .b false, .b false, .l, .stop] mixed (ih) (by kernel_rfl) ?_
            show Yes _
            repeat' apply And.intro
            all_goals (try first | exact hs | exact g0 | exact g3)
            (all_goals first | rfl | assumption | trivial | omega | (simp [-List.getD_eq_getElem?_getD] <;> omega) | (simp (disch := omega) only [w64, wu64] <;> omega) | (simp (disch := omega) [-List.getD_eq_getElem?_getD, List.getD_cons_zero, List.getD_cons_succ, kCast_self, dfl_pair, dfl_int, w64, wu64] <;> omega) | (rw [Bool.eq_iff_iff]; simp (disch := omega) [-List.getD_eq_getElem?_getD, List.getD_cons_zero, List.getD_cons_succ, kCast_self, dfl_pair, dfl_int, w64, wu64] <;> omega) | (simp_all [-List.getD_eq_getElem?_getD] <;> omega))
theorem NoteOrder_tri (xs : List ActT) (hl : xs.length ≤ 9223372036854775807) : Tri En 4 [.slice 0 0 xs.length] [.tab false actK xs] (.bl true) (gones 1) := by
  by_cases hx : xs.length ≤ 200
  · have ih := ord_0 xs hx xs.length 0 book0 (by omega) book0_ok (fun i j h1 h2 _ => by simp [book0] at h2) (by decide)
    refine Tri.of Try.func4 rfl Try.call4 rfl ?_
    refine Goods.to 2000 [.c (.of speaks_tri), .b false, .l, .stop] mixed (ih) (by kernel_rfl) ?_
    show Yes _
    repeat' apply And.intro
    (all_goals first | rfl | assumption | trivial | omega | (simp [-List.getD_eq_getElem?_getD] <;> omega) | (simp (disch := omega) only [w64, wu64] <;> omega) | (simp (disch := omega) [-List.getD_eq_getElem?_getD, List.getD_cons_zero, List.getD_cons_succ, kCast_self, dfl_pair, dfl_int, w64, wu64] <;> omega) | (rw [Bool.eq_iff_iff]; simp (disch := omega) [-List.getD_eq_getElem?_getD, List.getD_cons_zero, List.getD_cons_succ, kCast_self, dfl_pair, dfl_int, w64, wu64] <;> omega) | (simp_all [-List.getD_eq_getElem?_getD] <;> omega))
  · refine Tri.of Try.func4 rfl Try.call4 rfl ?_
    refine Goods.fin 2000 [.c (.of speaks_tri), .b true] mixed Try.func4 ?_
    show Yes _
    repeat' apply And.intro
    (all_goals first | rfl | assumption | trivial | omega | (simp [-List.getD_eq_getElem?_getD] <;> omega) | (simp (disch := omega) only [w64, wu64] <;> omega) | (simp (disch := omega) [-List.getD_eq_getElem?_getD, List.getD_cons_zero, List.getD_cons_succ, kCast_self, dfl_pair, dfl_int, w64, wu64] <;> omega) | (rw [Bool.eq_iff_iff]; simp (disch := omega) [-List.getD_eq_getElem?_getD, List.getD_cons_zero, List.getD_cons_succ, kCast_self, dfl_pair, dfl_int, w64, wu64] <;> omega) | (simp_all [-List.getD_eq_getElem?_getD] <;> omega))
theorem NoteOrder_law (d : dats ([(false, (.slice (.pair (.int .i64) (.pair (.int .i64) (.pair (.int .i64) (.pair (.pair (.int .i64) (.pair (.int .i64) .unit)) (.pair (.pair (.int .i64) (.pair (.int .i64) .unit)) .unit)))))))] : List (Bool × Sh))) (hd : datsOk ([(false, (.slice (.pair (.int .i64) (.pair (.int .i64) (.pair (.int .i64) (.pair (.pair (.int .i64) (.pair (.int .i64) .unit)) (.pair (.pair (.int .i64) (.pair (.int .i64) .unit)) .unit)))))))] : List (Bool × Sh)) d) : Tri En 4 (argsOf ([(false, (.slice (.pair (.int .i64) (.pair (.int .i64) (.pair (.int .i64) (.pair (.pair (.int .i64) (.pair (.int .i64) .unit)) (.pair (.pair (.int .i64) (.pair (.int .i64) .unit)) .unit)))))))] : List (Bool × Sh)) d 0) (objsOf ([(false, (.slice (.pair (.int .i64) (.pair (.int .i64) (.pair (.int .i64) (.pair (.pair (.int .i64) (.pair (.int .i64) .unit)) (.pair (.pair (.int .i64) (.pair (.int .i64) .unit)) .unit)))))))] : List (Bool × Sh)) d) (.bl true) (gones (cnts ([(false, (.slice (.pair (.int .i64) (.pair (.int .i64) (.pair (.int .i64) (.pair (.pair (.int .i64) (.pair (.int .i64) .unit)) (.pair (.pair (.int .i64) (.pair (.int .i64) .unit)) .unit)))))))] : List (Bool × Sh)))) := by
  obtain ⟨xs, _⟩ := d
  obtain ⟨⟨h1, _⟩, _⟩ := hd
  exact NoteOrder_tri xs (maxLen_le h1)
end Go.Proofs.Ytkeedpjdadgaeaa.E
