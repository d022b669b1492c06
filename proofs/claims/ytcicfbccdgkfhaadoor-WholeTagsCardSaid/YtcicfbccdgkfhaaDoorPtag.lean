/- Package tag: the least number that isn't used; looking through words for references. -/
import Derived.Test.YtcicfbccdgkfhaaDoorPmap
import Derived.Test.YtcicfbccdgkfhaaDoorPref
import Derived.Test.YtcicfbccdgkfhaaDoorPmem
namespace Go.Proofs.YtcicfbccdgkfhaaDoor.E
open Go
set_option maxRecDepth 100000

theorem len_of_sub : ∀ {l m : List Int}, l.Nodup → (∀ x ∈ l, x ∈ m) → l.length ≤ m.length
  | [], _, _, _ => Nat.zero_le _
  | a :: l, m, hn, h => by
    obtain ⟨h1, h2⟩ := List.nodup_cons.1 hn
    have ha : a ∈ m := h a (by simp)
    have := len_of_sub (l := l) (m := m.erase a) h2 fun x hx => by
      have hne : x ≠ a := by rintro rfl; exact h1 hx
      exact (List.mem_erase_of_ne hne).2 (h x (by simp [hx]))
    rw [List.length_erase_of_mem ha] at this
    have := List.length_pos_of_mem ha
    simp only [List.length_cons]; omega
/-- The least number from i on that isn't among some. -/
def leastF (l : List Int) : Nat → Nat → Nat
  | 0, i => i
  | n + 1, i => if (i : Int) ∈ l then leastF l n (i + 1) else i
def leastT (l : List Int) : Nat := leastF l (l.length + 1) 0
theorem leastF_spec (l : List Int) : ∀ (n i : Nat), i ≤ leastF l n i ∧ leastF l n i ≤ i + n ∧ (∀ j : Nat, i ≤ j → j < leastF l n i → (j : Int) ∈ l) ∧ (leastF l n i < i + n → (leastF l n i : Int) ∉ l)
  | 0, i => ⟨Nat.le_refl _, by simp [leastF], fun j h1 h2 => by simp [leastF] at h2; omega, fun h => by simp [leastF] at h⟩
  | n + 1, i => by
    simp only [leastF]
    by_cases hi : (i : Int) ∈ l
    · rw [if_pos hi]
      obtain ⟨h1, h2, h3, h4⟩ := leastF_spec l n (i + 1)
      refine ⟨by omega, by omega, fun j hj hj2 => ?_, fun h => h4 (by omega)⟩
      by_cases he : j = i
      · subst he; exact hi
      · exact h3 j (by omega) hj2
    · rw [if_neg hi]
      exact ⟨Nat.le_refl _, by omega, fun j hj hj2 => by omega, fun _ => hi⟩
theorem leastT_spec (l : List Int) : leastT l ≤ l.length ∧ (∀ j : Nat, j < leastT l → (j : Int) ∈ l) ∧ (leastT l : Int) ∉ l := by
  obtain ⟨_, h2, h3, h4⟩ := leastF_spec l (l.length + 1) 0
  have hle : leastT l ≤ l.length := by
    apply Classical.byContradiction
    intro hn
    have hsub : ∀ x ∈ (List.range (l.length + 1)).map (fun i : Nat => (i : Int)), x ∈ l := by
      intro x hx
      obtain ⟨i, hi, rfl⟩ := List.mem_map.1 hx
      exact h3 i (Nat.zero_le _) (by have := List.mem_range.1 hi; show i < leastT l; omega)
    have hnd : ((List.range (l.length + 1)).map (fun i : Nat => (i : Int))).Nodup := by
      unfold List.Nodup
      rw [List.pairwise_map]
      exact List.nodup_range.imp fun h e => h (by exact_mod_cast e)
    have := len_of_sub hnd hsub
    simp at this
    omega
  exact ⟨hle, fun j hj => h3 j (Nat.zero_le _) hj, h4 (by show leastT l < _; omega)⟩
theorem leastT_eq {l : List Int} {n : Nat} (h1 : ∀ j : Nat, j < n → (j : Int) ∈ l) (h2 : (n : Int) ∉ l) : leastT l = n := by
  obtain ⟨_, h3, h4⟩ := leastT_spec l
  rcases Nat.lt_trichotomy (leastT l) n with h | h | h
  · exact absurd (h1 _ h) h4
  · exact h
  · exact absurd (h3 _ h) h2
theorem leastT_congr {l l' : List Int} (h : ∀ x, x ∈ l ↔ x ∈ l') : leastT l = leastT l' := by
  obtain ⟨_, h3, h4⟩ := leastT_spec l'
  exact leastT_eq (fun j hj => (h _).2 (h3 j hj)) fun hn => h4 ((h _).1 hn)

abbrev SetT := List (Ent (.int .i64) .unit)
noncomputable abbrev gLeast (own : Bool) (l : List Int) : Frm := ⟨En, 9, Tryd.f9.ntmps, [.tab own (.int .i64) l], .int .i64 (leastT l), [.tab own (.int .i64) l]⟩
theorem least_1 (own : Bool) (l : List Int) (hl : l.length < 1000000) (c : Nat) (es : SetT) (he : ∀ z, (mget (kk := .int .i64) (vk := .unit) z es).isSome = decide (z ∈ l)) : ∀ (j i : Nat), i + j = leastT l → Goods (gLeast own l) ⟨.none, lp Tryd.f9 1, [(3, .map 1), (6, .int .i64 i)], hp [.tab own (.int .i64) l, .map (.int .i64) .unit c es]⟩
  | 0, i, h => by
    obtain rfl : i = leastT l := by omega
    have e : mhas (kk := .int .i64) (vk := .unit) (leastT l : Int) es = false := by rw [mhas, he]; exact decide_eq_false (leastT_spec l).2.2
    refine Goods.fin 2000 [.b true] mixed Tryd.func9 ?_
    show Yes _
    repeat' apply And.intro
    (all_goals first | rfl | assumption | trivial | omega | (simp [-List.getD_eq_getElem?_getD, e] <;> omega) | (simp (disch := omega) only [w64, wu64] <;> omega) | (simp (disch := omega) [-List.getD_eq_getElem?_getD, List.getD_cons_zero, List.getD_cons_succ, kCast_self, dfl_pair, dfl_int, w64, wu64, e] <;> omega) | (rw [Bool.eq_iff_iff]; simp (disch := omega) [-List.getD_eq_getElem?_getD, List.getD_cons_zero, List.getD_cons_succ, kCast_self, dfl_pair, dfl_int, w64, wu64, e] <;> omega) | (simp_all [-List.getD_eq_getElem?_getD] <;> omega))
  | j + 1, i, h => by
    have ih := least_1 own l hl c es he j (i + 1) (by omega)
    have e : mhas (kk := .int .i64) (vk := .unit) (i : Int) es = true := by rw [mhas, he]; exact decide_eq_true ((leastT_spec l).2.1 i (by omega))
    have hle := (leastT_spec l).1
    refine Goods.to 2000 [.b false, .l, .stop] mixed (ih) (by kernel_rfl) ?_
    show Yes _
    repeat' apply And.intro
    (all_goals first | rfl | assumption | trivial | omega | (simp [-List.getD_eq_getElem?_getD, e] <;> omega) | (simp (disch := omega) only [w64, wu64] <;> omega) | (simp (disch := omega) [-List.getD_eq_getElem?_getD, List.getD_cons_zero, List.getD_cons_succ, kCast_self, dfl_pair, dfl_int, w64, wu64, e] <;> omega) | (rw [Bool.eq_iff_iff]; simp (disch := omega) [-List.getD_eq_getElem?_getD, List.getD_cons_zero, List.getD_cons_succ, kCast_self, dfl_pair, dfl_int, w64, wu64, e] <;> omega) | (simp_all [-List.getD_eq_getElem?_getD] <;> omega))
theorem least_0 (own : Bool) (l : List Int) (hl : l.length < 1000000) : ∀ (j k : Nat) (c : Nat) (es : SetT), k + j = l.length → (∀ z, (mget (kk := .int .i64) (vk := .unit) z es).isSome = decide (z ∈ l.take k)) → Goods (gLeast own l) ⟨.none, lp Tryd.f9 0, [(3, .map 1), (10, .slice 0 0 l.length), (11, .int .i64 l.length), (12, .int .i64 k)], hp [.tab own (.int .i64) l, .map (.int .i64) .unit c es]⟩
  | 0, k, c, es, h, he => by
    obtain rfl : k = l.length := by omega
    rw [List.take_length] at he
    have ih := least_1 own l hl c es he (leastT l) 0 (by omega)
    refine Goods.to 2000 [.b false, .l, .stop] mixed (ih) (by kernel_rfl) ?_
    show Yes _
    repeat' apply And.intro
    (all_goals first | rfl | assumption | trivial | omega | (simp [-List.getD_eq_getElem?_getD] <;> omega) | (simp (disch := omega) only [w64, wu64] <;> omega) | (simp (disch := omega) [-List.getD_eq_getElem?_getD, List.getD_cons_zero, List.getD_cons_succ, kCast_self, dfl_pair, dfl_int, w64, wu64] <;> omega) | (rw [Bool.eq_iff_iff]; simp (disch := omega) [-List.getD_eq_getElem?_getD, List.getD_cons_zero, List.getD_cons_succ, kCast_self, dfl_pair, dfl_int, w64, wu64] <;> omega) | (simp_all [-List.getD_eq_getElem?_getD] <;> omega))
  | j + 1, k, c, es, h, he => by
    obtain ⟨x, hx⟩ : ∃ x, l.getD k 0 = x := ⟨_, rfl⟩
    have ht : l.take (k + 1) = l.take k ++ [x] := by rw [List.take_add_one, ← hx]; simp [List.getD, show k < l.length by omega]
    have ih := least_0 own l hl j (k + 1) (mclock (kk := .int .i64) (vk := .unit) x c es) (mput (kk := .int .i64) (vk := .unit) x () c es) (by omega) fun z => by
      rw [mget_put, ht]
      by_cases hz : z = x
      · rw [if_pos hz]; simp [hz]
      · rw [if_neg hz, he]; simp [hz]
    subst hx
    refine Goods.to 2000 [.b true, .l, .stop] mixed (ih) (by kernel_rfl) ?_
    show Yes _
    repeat' apply And.intro
    (all_goals first | rfl | assumption | trivial | omega | (simp [-List.getD_eq_getElem?_getD] <;> omega) | (simp (disch := omega) only [w64, wu64] <;> omega) | (simp (disch := omega) [-List.getD_eq_getElem?_getD, List.getD_cons_zero, List.getD_cons_succ, kCast_self, dfl_pair, dfl_int, w64, wu64] <;> omega) | (rw [Bool.eq_iff_iff]; simp (disch := omega) [-List.getD_eq_getElem?_getD, List.getD_cons_zero, List.getD_cons_succ, kCast_self, dfl_pair, dfl_int, w64, wu64] <;> omega) | (simp_all [-List.getD_eq_getElem?_getD] <;> omega))
theorem least_tri (own : Bool) (l : List Int) (hl : l.length < 1000000) : Tri En 9 [.slice 0 0 l.length] [.tab own (.int .i64) l] (.int .i64 (leastT l)) [.tab own (.int .i64) l] := by
  have ih := least_0 own l hl l.length 0 0 [] (by omega) fun z => rfl
  refine Tri.of Tryd.func9 rfl Tryd.call9 rfl ?_
  refine Goods.to 2000 [.l, .stop] mixed (ih) (by kernel_rfl) ?_
  show Yes _
  repeat' apply And.intro
  (all_goals first | rfl | assumption | trivial | omega | (simp [-List.getD_eq_getElem?_getD] <;> omega) | (simp (disch := omega) only [w64, wu64] <;> omega) | (simp (disch := omega) [-List.getD_eq_getElem?_getD, List.getD_cons_zero, List.getD_cons_succ, kCast_self, dfl_pair, dfl_int, w64, wu64] <;> omega) | (rw [Bool.eq_iff_iff]; simp (disch := omega) [-List.getD_eq_getElem?_getD, List.getD_cons_zero, List.getD_cons_succ, kCast_self, dfl_pair, dfl_int, w64, wu64] <;> omega) | (simp_all [-List.getD_eq_getElem?_getD] <;> omega))
end Go.Proofs.YtcicfbccdgkfhaaDoor.E
