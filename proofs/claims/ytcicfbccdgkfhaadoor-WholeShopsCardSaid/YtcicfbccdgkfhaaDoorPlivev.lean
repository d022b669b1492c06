/- Package live: all that is live. -/
import Derived.Test.YtcicfbccdgkfhaaDoorPliveu
namespace Go.Proofs.YtcicfbccdgkfhaaDoor.E
set_option linter.unusedSimpArgs false
set_option linter.unusedVariables false
open Go
set_option maxRecDepth 100000

abbrev IvK : K := .pair (.int .i64) (.int .i64)
def allL (c : Cnf) (f : Nat → Nat) : Nat → List (Int × Int)
  | 0 => []
  | k + 1 => allL c f k ++ (if thIs (f k) = true then [(65536 + 16 * (k : Int), sizeN c (thOf (f k)))] else [])
theorem allL_len (c : Cnf) (f : Nat → Nat) : ∀ k, (allL c f k).length ≤ k
  | 0 => Nat.le_refl _
  | k + 1 => by
    have := allL_len c f k
    simp only [allL, List.length_append]
    split <;> simp <;> omega
theorem allL_congr (c : Cnf) {f f' : Nat → Nat} : ∀ k, (∀ g, g < k → f g = f' g) → allL c f k = allL c f' k
  | 0, _ => rfl
  | k + 1, h => by
    simp only [allL]
    rw [allL_congr c k (fun g hg => h g (by omega)), h k (by omega)]
theorem allL_none (c : Cnf) {f : Nat → Nat} : ∀ k, (∀ g, g < k → thIs (f g) = false) → allL c f k = []
  | 0, _ => rfl
  | k + 1, h => by
    simp only [allL]
    rw [allL_none c k (fun g hg => h g (by omega)), h k (by omega)]
    rfl
/-- One thing is live. -/
theorem allL_one (c : Cnf) {f : Nat → Nat} (i : Nat) (hi : thIs (f i) = true) : ∀ k, (∀ g, g < k → g ≠ i → thIs (f g) = false) → allL c f k = if i < k then [(65536 + 16 * (i : Int), sizeN c (thOf (f i)))] else []
  | 0, _ => rfl
  | k + 1, h => by
    simp only [allL]
    rw [allL_one c i hi k (fun g hg => h g (by omega))]
    by_cases h1 : k = i
    · subst h1
      rw [if_neg (by omega), if_pos hi, if_pos (by omega)]; rfl
    · rw [if_neg (show ¬ thIs (f k) = true by rw [h k (by omega) h1]; simp), List.append_nil]
      by_cases h2 : i < k
      · rw [if_pos h2, if_pos (by omega)]
      · rw [if_neg h2, if_neg (by omega)]
theorem thOf_q (w : Nat) : -9223372036854775808 ≤ (thOf w).2 ∧ (thOf w).2 ≤ 9223372036854775807 := by
  have : getN w 8 16 < 65536 := getN_lt w 8 (b := 16)
  unfold thOf
  split
  · simp
  · split
    · simp only; omega
    · simp
noncomputable abbrev gAll (c : Cnf) (b : Nat) (m : MemS) (f : Nat → Nat) (G : Nat) : Frm := ⟨En, 27, Tryd.f27.ntmps, [tableC 1 2 b c, memC 3 m, clsT c, memT m], .slice 4 0 (allL c f G).length, [tableC 1 2 b c, memC 3 m, clsT c, memT m, .tab true IvK (allL c f G)]⟩
theorem all_e (c : Cnf) (b : Nat) (m : MemS) (f : Nat → Nat) (G : Nat) : Goods (gAll c b m f G) ⟨.none, lp Tryd.f27 0, [(0, .ptr 0 0 0), (3, .slice 4 0 (allL c f G).length), (11, .int .i64 G), (12, .int .i64 G)], hp [tableC 1 2 b c, memC 3 m, clsT c, memT m, .tab true IvK (allL c f G)]⟩ := by
  refine Goods.fin 2000 [.b false] mixed Tryd.func27 ?_
  show Yes _
  repeat' apply And.intro
  (all_goals first | rfl | assumption | trivial | omega | (simp [-List.getD_eq_getElem?_getD] <;> omega) | (simp (disch := omega) only [w64, wu64] <;> omega) | (simp (disch := omega) [-List.getD_eq_getElem?_getD, List.getD_cons_zero, List.getD_cons_succ, kCast_self, dfl_pair, dfl_int, w64, wu64] <;> omega) | (rw [Bool.eq_iff_iff]; simp (disch := omega) [-List.getD_eq_getElem?_getD, List.getD_cons_zero, List.getD_cons_succ, kCast_self, dfl_pair, dfl_int, w64, wu64] <;> omega) | (simp_all [-List.getD_eq_getElem?_getD] <;> omega))
set_option maxHeartbeats 1000000 in
theorem all_y (c : Cnf) (h : c.Ok) (b : Nat) (hb : b ≤ 100000) (m : MemS) (f : Nat → Nat) (G : Nat) (hG : (G : Int) = 64 * c.s) (hf : ∀ g, g < G → m.get ((b + g : Nat) : Int) = (f g : Int) ∧ f g < 18446744073709551616) (k : Nat) (hk : k < G) (e : thIs (f k) = true) (ih : Goods (gAll c b m f G) ⟨.none, lp Tryd.f27 0, [(0, .ptr 0 0 0), (3, .slice 4 0 (allL c f (k + 1)).length), (11, .int .i64 G), (12, .int .i64 (k + 1 : Nat))], hp [tableC 1 2 b c, memC 3 m, clsT c, memT m, .tab true IvK (allL c f (k + 1))]⟩) : Goods (gAll c b m f G) ⟨.none, lp Tryd.f27 0, [(0, .ptr 0 0 0), (3, .slice 4 0 (allL c f k).length), (11, .int .i64 G), (12, .int .i64 k)], hp [tableC 1 2 b c, memC 3 m, clsT c, memT m, .tab true IvK (allL c f k)]⟩ := by
  have s1 := h.s1
  obtain ⟨h1, h2⟩ := hf k (by omega)
  have hp := mem_peek m (b + k : Nat)
  rw [h1] at hp
  have ht := thing_tri (f k) h2
  have hl := allL_len c f k
  have hq := thOf_q (f k)
  simp only [allL] at ih
  generalize allL c f k = l at *
  rw [if_pos e, List.length_append] at ih
  generalize thIs (f k) = t at *
  subst e
  generalize thOf (f k) = x at *
  obtain ⟨p, q⟩ := x
  have hs := th_size true c h p q hq
  generalize sizeN c (p, q) = z at *
  refine Goods.to 2000 [.b true, .k 26 (.of hp), .k 27 (.of ht), .b true, .k 40 (.of hs), .l, .stop] mixed (ih) (by kernel_rfl) ?_
  show Yes _
  repeat' apply And.intro
  (all_goals first | rfl | assumption | trivial | omega | (simp [-List.getD_eq_getElem?_getD] <;> omega) | (simp (disch := omega) only [w64, wu64] <;> omega) | (simp (disch := omega) [-List.getD_eq_getElem?_getD, List.getD_cons_zero, List.getD_cons_succ, kCast_self, dfl_pair, dfl_int, w64, wu64] <;> omega) | (rw [Bool.eq_iff_iff]; simp (disch := omega) [-List.getD_eq_getElem?_getD, List.getD_cons_zero, List.getD_cons_succ, kCast_self, dfl_pair, dfl_int, w64, wu64] <;> omega) | (simp_all [-List.getD_eq_getElem?_getD] <;> omega))
set_option maxHeartbeats 1000000 in
theorem all_n (c : Cnf) (h : c.Ok) (b : Nat) (hb : b ≤ 100000) (m : MemS) (f : Nat → Nat) (G : Nat) (hG : (G : Int) = 64 * c.s) (hf : ∀ g, g < G → m.get ((b + g : Nat) : Int) = (f g : Int) ∧ f g < 18446744073709551616) (k : Nat) (hk : k < G) (e : ¬ thIs (f k) = true) (ih : Goods (gAll c b m f G) ⟨.none, lp Tryd.f27 0, [(0, .ptr 0 0 0), (3, .slice 4 0 (allL c f (k + 1)).length), (11, .int .i64 G), (12, .int .i64 (k + 1 : Nat))], hp [tableC 1 2 b c, memC 3 m, clsT c, memT m, .tab true IvK (allL c f (k + 1))]⟩) : Goods (gAll c b m f G) ⟨.none, lp Tryd.f27 0, [(0, .ptr 0 0 0), (3, .slice 4 0 (allL c f k).length), (11, .int .i64 G), (12, .int .i64 k)], hp [tableC 1 2 b c, memC 3 m, clsT c, memT m, .tab true IvK (allL c f k)]⟩ := by
  have s1 := h.s1
  obtain ⟨h1, h2⟩ := hf k (by omega)
  have hp := mem_peek m (b + k : Nat)
  rw [h1] at hp
  have ht := thing_tri (f k) h2
  have hl := allL_len c f k
  simp only [allL] at ih
  generalize allL c f k = l at *
  rw [if_neg e, List.append_nil] at ih
  have e' : thIs (f k) = false := by simpa using e
  clear e
  generalize thIs (f k) = t at *
  subst e'
  generalize thOf (f k) = x at *
  obtain ⟨p, q⟩ := x
  refine Goods.to 2000 [.b true, .k 26 (.of hp), .k 27 (.of ht), .b false, .l, .stop] mixed (ih) (by kernel_rfl) ?_
  show Yes _
  repeat' apply And.intro
  (all_goals first | rfl | assumption | trivial | omega | (simp [-List.getD_eq_getElem?_getD] <;> omega) | (simp (disch := omega) only [w64, wu64] <;> omega) | (simp (disch := omega) [-List.getD_eq_getElem?_getD, List.getD_cons_zero, List.getD_cons_succ, kCast_self, dfl_pair, dfl_int, w64, wu64] <;> omega) | (rw [Bool.eq_iff_iff]; simp (disch := omega) [-List.getD_eq_getElem?_getD, List.getD_cons_zero, List.getD_cons_succ, kCast_self, dfl_pair, dfl_int, w64, wu64] <;> omega) | (simp_all [-List.getD_eq_getElem?_getD] <;> omega))
theorem all_0 (c : Cnf) (h : c.Ok) (b : Nat) (hb : b ≤ 100000) (m : MemS) (f : Nat → Nat) (G : Nat) (hG : (G : Int) = 64 * c.s) (hf : ∀ g, g < G → m.get ((b + g : Nat) : Int) = (f g : Int) ∧ f g < 18446744073709551616) : ∀ (j k : Nat), k + j = G → Goods (gAll c b m f G) ⟨.none, lp Tryd.f27 0, [(0, .ptr 0 0 0), (3, .slice 4 0 (allL c f k).length), (11, .int .i64 G), (12, .int .i64 k)], hp [tableC 1 2 b c, memC 3 m, clsT c, memT m, .tab true IvK (allL c f k)]⟩
  | 0, k, hk => by
    obtain rfl : k = G := by omega
    exact all_e c b m f k
  | j + 1, k, hk => by
    by_cases e : thIs (f k) = true
    · exact all_y c h b hb m f G hG hf k (by omega) e (all_0 c h b hb m f G hG hf j (k + 1) (by omega))
    · exact all_n c h b hb m f G hG hf k (by omega) e (all_0 c h b hb m f G hG hf j (k + 1) (by omega))
theorem all_tri (c : Cnf) (h : c.Ok) (b : Nat) (hb : b ≤ 100000) (m : MemS) (f : Nat → Nat) (G : Nat) (hG : (G : Int) = 64 * c.s) (hf : ∀ g, g < G → m.get ((b + g : Nat) : Int) = (f g : Int) ∧ f g < 18446744073709551616) : Tri En 27 [.ptr 0 0 0] [tableC 1 2 b c, memC 3 m, clsT c, memT m] (.slice 4 0 (allL c f G).length) [tableC 1 2 b c, memC 3 m, clsT c, memT m, .tab true IvK (allL c f G)] := by
  have hs := live_size true c h.toSmall
  rw [← hG] at hs
  have ih := Goods.nilTmp (tp := [(0, .ptr 0 0 0)]) (tq := [(11, .int .i64 G), (12, .int .i64 0)]) (os := [tableC 1 2 b c, memC 3 m, clsT c, memT m]) IvK (all_0 c h b hb m f G hG hf G 0 (by omega))
  refine Tri.of Tryd.func27 rfl Tryd.call27 rfl ?_
  refine Goods.to 2000 [.c (.of hs), .l, .stop] mixed (ih) (by kernel_rfl) ?_
  show Yes _
  repeat' apply And.intro
  (all_goals first | rfl | assumption | trivial | omega | (simp [-List.getD_eq_getElem?_getD] <;> omega) | (simp (disch := omega) only [w64, wu64] <;> omega) | (simp (disch := omega) [-List.getD_eq_getElem?_getD, List.getD_cons_zero, List.getD_cons_succ, kCast_self, dfl_pair, dfl_int, w64, wu64] <;> omega) | (rw [Bool.eq_iff_iff]; simp (disch := omega) [-List.getD_eq_getElem?_getD, List.getD_cons_zero, List.getD_cons_succ, kCast_self, dfl_pair, dfl_int, w64, wu64] <;> omega) | (simp_all [-List.getD_eq_getElem?_getD] <;> omega))
end Go.Proofs.YtcicfbccdgkfhaaDoor.E
