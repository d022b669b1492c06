/- TagScans: the law's contract, concluded. -/
import Derived.Test.YtmnpjemapdmigaaDoorL07f
namespace Go.Proofs.YtmnpjemapdmigaaDoor.E
open Go
set_option maxRecDepth 100000

/-- The words that are stored: the references', then the junk. -/
def refW (rs : List RefT) (k : Nat) : List Int := tabW k fun i => (ofW (rs.getD i refD) : Int)
def allF (rs : List RefT) (js : List Int) (i : Nat) : Nat := ((refW rs rs.length ++ js).getD i 0).toNat
theorem all_eq (rs : List RefT) (js : List Int) (hj : u64s js) (i : Nat) : (refW rs rs.length ++ js).getD i 0 = (allF rs js i : Int) ∧ allF rs js i < 18446744073709551616 := by
  have key : ∃ x : Nat, (refW rs rs.length ++ js).getD i 0 = x ∧ x < 18446744073709551616 := by
    have hl : (refW rs rs.length).length = rs.length := tabW_len ..
    by_cases h1 : i < rs.length
    · refine ⟨ofW (rs.getD i refD), ?_, ofW_lt _⟩
      have := tabW_get (n := rs.length) (f := fun i => (ofW (rs.getD i refD) : Int)) h1
      rw [← this]
      simp only [List.getD]
      rw [List.getElem?_append_left (by omega)]; rfl
    · by_cases h2 : i - rs.length < js.length
      · obtain ⟨x, hx, hx2⟩ := hj _ h2
        refine ⟨x, ?_, hx2⟩
        rw [← hx]
        simp only [List.getD]
        rw [List.getElem?_append_right (by omega), hl]
      · refine ⟨0, ?_, by omega⟩
        simp only [List.getD]
        rw [List.getElem?_append_right (by omega), hl, List.getElem?_eq_none (by omega)]; rfl
  obtain ⟨x, hx, hx2⟩ := key
  unfold allF
  rw [hx, Int.toNat_natCast]
  exact ⟨rfl, hx2⟩
theorem refW_step (rs : List RefT) (k : Nat) : refW rs k ++ [(ofW (rs.getD k refD) : Int)] = refW rs (k + 1) := by simp [refW, tabW, List.range_succ]
def m0 : MemS := ⟨List.replicate 300 0, 0, 0, 0, 0⟩
section
variable (wk sl a N : Nat) (rs : List RefT) (js : List Int) (hwk : wk ≤ 255) (hsl : sl ≤ 255) (ha : a ≤ 255) (hN : N ≤ 255) (hr : ∀ i, i < rs.length → Ref64 (rs.getD i refD)) (hj : u64s js) (h1 : rs.length ≤ 100) (h2 : js.length ≤ 100)
include hwk hsl ha hN h1 h2
theorem sc_1e (A : List Int) (hA : A.length = rs.length + js.length) (hA2 : ∀ i, A.getD i 0 = (allF rs js i : Int)) (hF0 : ∀ i, allF rs js i < 18446744073709551616) (m : MemS) (hm : m.words = tabW 300 (fun i => if i < A.length then (allF rs js i : Int) else 0)) (ho : m.ops = A.length) (hF : m.faults = 0) :
    Goods (gScs rs js) ⟨.none, lp Tryd.f7 1, [(1, .ptr 2 0 0), (3, .ptr 3 0 0), (47, .slice 5 0 A.length), (48, .int .i64 A.length), (49, .int .i64 A.length)], hp [.tab false RefK rs, .tab false (.int .u64) js, caseC rs js wk sl a N, memC 4 m, memT m, .tab true (.int .u64) A]⟩ := by
  have hw : m.words = fW (allF rs js) := by
    rw [hm]
    refine tabW_congr fun i _ => ?_
    by_cases hi : i < A.length
    · rw [if_pos hi]
    · rw [if_neg hi, ← hA2 i, List.getD, List.getElem?_eq_none (by omega)]; rfl
  have ih := sc_2 wk sl a (min N (300 - a)) N rs js (allF rs js) hwk hsl ha (by omega) hF0 (by omega) A.length (by omega) (min N (300 - a)) 0 m (by omega) hw ho hF
  have hc := scan_new m a (min N (300 - a) : Nat) wk sl
  have hO := mem_ops m
  rw [ho] at hO
  have e1 : IntKind.i64.wrap (N : Int) = N := w64 (by omega) (by omega)
  have e2 : IntKind.i64.wrap (a : Int) = a := w64 (by omega) (by omega)
  have e3 : IntKind.i64.wrap (300 - (a : Int)) = 300 - a := w64 (by omega) (by omega)
  have e4 : ((min N (300 - a) : Nat) : Int) = min (N : Int) (300 - a) := by omega
  refine Goods.to 2000 [.b false, .c (.of hO), .c (.of hc), .l, .stop] mixed (ih) (by kernel_rfl) ?_
  show Yes _
  repeat' apply And.intro
  all_goals (try simp only [e1, e2, e3, e4])
  (all_goals first | rfl | assumption | trivial | omega | (simp [-List.getD_eq_getElem?_getD, e1, e2, e3, e4] <;> omega) | (simp (disch := omega) only [w64, wu64] <;> omega) | (simp (disch := omega) [-List.getD_eq_getElem?_getD, List.getD_cons_zero, List.getD_cons_succ, kCast_self, dfl_pair, dfl_int, w64, wu64, e1, e2, e3, e4] <;> omega) | (rw [Bool.eq_iff_iff]; simp (disch := omega) [-List.getD_eq_getElem?_getD, List.getD_cons_zero, List.getD_cons_succ, kCast_self, dfl_pair, dfl_int, w64, wu64, e1, e2, e3, e4] <;> omega) | (simp_all [-List.getD_eq_getElem?_getD] <;> omega))
theorem sc_1 (A : List Int) (hA : A.length = rs.length + js.length) (hA2 : ∀ i, A.getD i 0 = (allF rs js i : Int)) (hF0 : ∀ i, allF rs js i < 18446744073709551616) : ∀ (j k : Nat) (m : MemS), k + j = A.length → m.words = tabW 300 (fun i => if i < k then (allF rs js i : Int) else 0) → m.ops = k → m.faults = 0 →
    Goods (gScs rs js) ⟨.none, lp Tryd.f7 1, [(1, .ptr 2 0 0), (3, .ptr 3 0 0), (47, .slice 5 0 A.length), (48, .int .i64 A.length), (49, .int .i64 k)], hp [.tab false RefK rs, .tab false (.int .u64) js, caseC rs js wk sl a N, memC 4 m, memT m, .tab true (.int .u64) A]⟩
  | 0, k, m, h, hm, ho, hF => by
    obtain rfl : k = A.length := by omega
    exact sc_1e wk sl a N rs js hwk hsl ha hN h1 h2 A hA hA2 hF0 m hm ho hF
  | j + 1, k, m, h, hm, ho, hF => by
    have hin : m.inr ((k : Nat) : Int) := ⟨by omega, by rw [hm, tabW_len]; omega⟩
    have hx := hA2 k
    have ih := sc_1 A hA hA2 hF0 j (k + 1) ((m.acc 2 (k : Nat)).put (k : Nat) (allF rs js k)) (by omega) (by
      rw [MemS.put_words hin, hm, Int.toNat_natCast]
      refine tabW_set' fun i hi => ?_
      by_cases h1 : i = k
      · subst h1; rw [if_pos rfl, if_pos (by omega)]
      · rw [if_neg h1]; by_cases h2 : i < k
        · rw [if_pos h2, if_pos (by omega)]
        · rw [if_neg h2, if_neg (by omega)]) (by rw [MemS.put_ops, ho]; exact inc_nat (by omega)) (by rw [MemS.put_faults hin, hF])
    refine Goods.to 2000 [.b true, .c (.of (mem_store m k (allF rs js k))), .l, .stop] mixed (ih) (by kernel_rfl) ?_
    show Yes _
    repeat' apply And.intro
    (all_goals first | rfl | assumption | trivial | omega | (simp [-List.getD_eq_getElem?_getD, hx] <;> omega) | (simp (disch := omega) only [w64, wu64] <;> omega) | (simp (disch := omega) [-List.getD_eq_getElem?_getD, List.getD_cons_zero, List.getD_cons_succ, kCast_self, dfl_pair, dfl_int, w64, wu64, hx] <;> omega) | (rw [Bool.eq_iff_iff]; simp (disch := omega) [-List.getD_eq_getElem?_getD, List.getD_cons_zero, List.getD_cons_succ, kCast_self, dfl_pair, dfl_int, w64, wu64, hx] <;> omega) | (simp_all [-List.getD_eq_getElem?_getD] <;> omega))
include hr hj
theorem sc_0 : ∀ (j k : Nat), k + j = rs.length →
    Goods (gScs rs js) ⟨.none, lp Tryd.f7 0, [(1, .ptr 2 0 0), (3, .ptr 3 0 0), (4, .slice 5 0 k), (31, .slice 0 0 rs.length), (32, .int .i64 rs.length), (33, .int .i64 k)], hp [.tab false RefK rs, .tab false (.int .u64) js, caseC rs js wk sl a N, memC 4 m0, memT m0, .tab true (.int .u64) (refW rs k)]⟩
  | 0, k, h => by
    obtain rfl : k = rs.length := by omega
    have hl : (refW rs rs.length).length = rs.length := tabW_len ..
    have ih := sc_1 wk sl a N rs js hwk hsl ha hN h1 h2 (refW rs rs.length ++ js) (by rw [List.length_append, hl]) (fun i => (all_eq rs js hj i).1) (fun i => (all_eq rs js hj i).2) (rs.length + js.length) 0 m0 (by rw [List.length_append, hl]; omega) (by rw [m0, tabW_zero]; exact tabW_congr fun i _ => (if_neg (by omega)).symm) rfl rfl
    rw [List.length_append, hl] at ih
    refine Goods.to 2000 [.b false, .l, .stop] mixed (ih) (by kernel_rfl) ?_
    show Yes _
    repeat' apply And.intro
    (all_goals first | rfl | assumption | trivial | omega | (simp [-List.getD_eq_getElem?_getD, hl] <;> omega) | (simp (disch := omega) only [w64, wu64] <;> omega) | (simp (disch := omega) [-List.getD_eq_getElem?_getD, List.getD_cons_zero, List.getD_cons_succ, kCast_self, dfl_pair, dfl_int, w64, wu64, hl] <;> omega) | (rw [Bool.eq_iff_iff]; simp (disch := omega) [-List.getD_eq_getElem?_getD, List.getD_cons_zero, List.getD_cons_succ, kCast_self, dfl_pair, dfl_int, w64, wu64, hl] <;> omega) | (simp_all [-List.getD_eq_getElem?_getD] <;> omega))
  | j + 1, k, h => by
    obtain ⟨r, hx⟩ : ∃ r, rs.getD k refD = r := ⟨_, rfl⟩
    have ho := of_any r (by rw [← hx]; exact hr k (by omega))
    have hl : (refW rs k).length = k := tabW_len ..
    have ih := sc_0 j (k + 1) (by omega)
    rw [← refW_step, hx] at ih
    obtain ⟨p, q, s⟩ := r
    have hy : rs.getD k (dfl RefK) = (p, q, s) := hx
    refine Goods.to 2000 [.b true, .c (.of ho), .l, .stop] mixed (ih) (by kernel_rfl) ?_
    show Yes _
    repeat' apply And.intro
    (all_goals first | rfl | assumption | trivial | omega | (simp [-List.getD_eq_getElem?_getD, hy, hl] <;> omega) | (simp (disch := omega) only [w64, wu64] <;> omega) | (simp (disch := omega) [-List.getD_eq_getElem?_getD, List.getD_cons_zero, List.getD_cons_succ, kCast_self, dfl_pair, dfl_int, w64, wu64, hy, hl] <;> omega) | (rw [Bool.eq_iff_iff]; simp (disch := omega) [-List.getD_eq_getElem?_getD, List.getD_cons_zero, List.getD_cons_succ, kCast_self, dfl_pair, dfl_int, w64, wu64, hy, hl] <;> omega) | (simp_all [-List.getD_eq_getElem?_getD] <;> omega))
end
theorem TagScans_tri (wk sl a N : Nat) (rs : List RefT) (js : List Int) (hwk : wk ≤ 255) (hsl : sl ≤ 255) (ha : a ≤ 255) (hN : N ≤ 255) (hr : ∀ i, i < rs.length → Ref64 (rs.getD i refD)) (hj : u64s js) (_ : rs.length ≤ 9223372036854775807) (_ : js.length ≤ 9223372036854775807) :
    Tri En 7 [.agg [.slice 0 0 rs.length, .slice 1 0 js.length, .int .u8 wk, .int .u8 sl, .int .u8 a, .int .u8 N]] [.tab false RefK rs, .tab false (.int .u64) js] (.bl true) (gones 2) := by
  refine Tri.of Tryd.func7 rfl Tryd.call7 rfl ?_
  by_cases h1 : rs.length ≤ 100
  · by_cases h2 : js.length ≤ 100
    · have hm := mem_new 300
      rw [show (min (max (300 : Int) 0) 16777216).toNat = 300 by decide] at hm
      have ih := Goods.nilTmp (tp := [(1, .ptr 2 0 0), (3, .ptr 3 0 0)]) (tq := [(31, .slice 0 0 rs.length), (32, .int .i64 rs.length), (33, .int .i64 0)]) (os := [.tab false RefK rs, .tab false (.int .u64) js, caseC rs js wk sl a N, memC 4 m0, memT m0]) (.int .u64) (sc_0 wk sl a N rs js hwk hsl ha hN hr hj h1 h2 rs.length 0 (by omega))
      refine Goods.to 2000 [.c (.of speaks_tri), .s 22 (some false) true true, .b false, .c (.of hm), .l, .stop] mixed (ih) (by kernel_rfl) ?_
      show Yes _
      repeat' apply And.intro
      (all_goals first | rfl | assumption | trivial | omega | (simp [-List.getD_eq_getElem?_getD] <;> omega) | (simp (disch := omega) only [w64, wu64] <;> omega) | (simp (disch := omega) [-List.getD_eq_getElem?_getD, List.getD_cons_zero, List.getD_cons_succ, kCast_self, dfl_pair, dfl_int, w64, wu64] <;> omega) | (rw [Bool.eq_iff_iff]; simp (disch := omega) [-List.getD_eq_getElem?_getD, List.getD_cons_zero, List.getD_cons_succ, kCast_self, dfl_pair, dfl_int, w64, wu64] <;> omega) | (simp_all [-List.getD_eq_getElem?_getD] <;> omega))
    · refine Goods.fin 2000 [.c (.of speaks_tri), .s 22 (some false) true true, .b true] mixed Tryd.func7 ?_
      show Yes _
      repeat' apply And.intro
      (all_goals first | rfl | assumption | trivial | omega | (simp [-List.getD_eq_getElem?_getD] <;> omega) | (simp (disch := omega) only [w64, wu64] <;> omega) | (simp (disch := omega) [-List.getD_eq_getElem?_getD, List.getD_cons_zero, List.getD_cons_succ, kCast_self, dfl_pair, dfl_int, w64, wu64] <;> omega) | (rw [Bool.eq_iff_iff]; simp (disch := omega) [-List.getD_eq_getElem?_getD, List.getD_cons_zero, List.getD_cons_succ, kCast_self, dfl_pair, dfl_int, w64, wu64] <;> omega) | (simp_all [-List.getD_eq_getElem?_getD] <;> omega))
  · refine Goods.fin 2000 [.c (.of speaks_tri), .s 22 (some true) true true] mixed Tryd.func7 ?_
    show Yes _
    repeat' apply And.intro
    (all_goals first | rfl | assumption | trivial | omega | (simp [-List.getD_eq_getElem?_getD] <;> omega) | (simp (disch := omega) only [w64, wu64] <;> omega) | (simp (disch := omega) [-List.getD_eq_getElem?_getD, List.getD_cons_zero, List.getD_cons_succ, kCast_self, dfl_pair, dfl_int, w64, wu64] <;> omega) | (rw [Bool.eq_iff_iff]; simp (disch := omega) [-List.getD_eq_getElem?_getD, List.getD_cons_zero, List.getD_cons_succ, kCast_self, dfl_pair, dfl_int, w64, wu64] <;> omega) | (simp_all [-List.getD_eq_getElem?_getD] <;> omega))
theorem TagScans_law (d : dats ([(true, (.pair (.slice (.pair (.int .i64) (.pair (.int .i64) (.pair (.int .i64) .unit)))) (.pair (.slice (.int .u64)) (.pair (.int .u8) (.pair (.int .u8) (.pair (.int .u8) (.pair (.int .u8) .unit)))))))] : List (Bool × Sh))) (hd : datsOk ([(true, (.pair (.slice (.pair (.int .i64) (.pair (.int .i64) (.pair (.int .i64) .unit)))) (.pair (.slice (.int .u64)) (.pair (.int .u8) (.pair (.int .u8) (.pair (.int .u8) (.pair (.int .u8) .unit)))))))] : List (Bool × Sh)) d) : Tri En 7 (argsOf ([(true, (.pair (.slice (.pair (.int .i64) (.pair (.int .i64) (.pair (.int .i64) .unit)))) (.pair (.slice (.int .u64)) (.pair (.int .u8) (.pair (.int .u8) (.pair (.int .u8) (.pair (.int .u8) .unit)))))))] : List (Bool × Sh)) d 0) (objsOf ([(true, (.pair (.slice (.pair (.int .i64) (.pair (.int .i64) (.pair (.int .i64) .unit)))) (.pair (.slice (.int .u64)) (.pair (.int .u8) (.pair (.int .u8) (.pair (.int .u8) (.pair (.int .u8) .unit)))))))] : List (Bool × Sh)) d) (.bl true) (gones (cnts ([(true, (.pair (.slice (.pair (.int .i64) (.pair (.int .i64) (.pair (.int .i64) .unit)))) (.pair (.slice (.int .u64)) (.pair (.int .u8) (.pair (.int .u8) (.pair (.int .u8) (.pair (.int .u8) .unit)))))))] : List (Bool × Sh)))) := by
  obtain ⟨⟨rs, js, wk, sl, a, N, _⟩, _⟩ := d
  obtain ⟨⟨⟨h0, h1⟩, ⟨h2, h3⟩, h4, h5, h6, h7, _⟩, _⟩ := hd
  obtain ⟨wk, rfl, hwk⟩ := wf_u8 h4
  obtain ⟨sl, rfl, hsl⟩ := wf_u8 h5
  obtain ⟨a, rfl, ha⟩ := wf_u8 h6
  obtain ⟨N, rfl, hN⟩ := wf_u8 h7
  exact TagScans_tri wk sl a N rs js hwk hsl ha hN (ref64_ok h1) (u64s_ok h3) (maxLen_le h0) (maxLen_le h2)
end Go.Proofs.YtmnpjemapdmigaaDoor.E
