/- HeartDoes: the law's contract. -/
import Derived.Test.YtdnhnglhdabkgaaDoorL11e
import Derived.Test.YtdnhnglhdabkgaaDoorL11b
namespace Go.Proofs.YtdnhnglhdabkgaaDoor.E
open Go
set_option maxRecDepth 100000

theorem hd_0 (c : Cnf) (hc : c.Ok) (l : List AskT) (hll : l.length ≤ 100) (hok : ∀ y ∈ l, okK AskK y) (n : Nat) (hn : (n : Int) = c.s) : ∀ (j k : Nat) (f : SupF), k + j = l.length → HInv c n f → Goods (gHd c l) (hdSt c l n f k)
  | 0, k, f, hk, hI => by
    obtain rfl : k = l.length := by omega
    exact hd_end c hc l n hn f hI
  | j + 1, k, f, hk, hI => by
    obtain ⟨kd, q, m, ra, rb, hy, h1, h2, h3⟩ := asks_at hok (show k < l.length by omega)
    obtain ⟨x, y, f', hI', hd⟩ := do_step false c hc n hn f hI kd q m ra rb h1 h2 h3
    have ih := hd_0 c hc l hll hok n hn j (k + 1) f' (by omega) hI'
    rcases hd with hd | hd
    · exact hd_a c hc l hll n hn f f' hI' k (by omega) kd q m ra rb x y hy hd ih
    · exact hd_b c hc l hll n hn f f' hI' k (by omega) kd q m ra rb x y hy hd ih
set_option maxHeartbeats 4000000 in
theorem HeartDoes_tri (c : Cnf) (hcl : c.cl.length ≤ 9223372036854775807) (l : List AskT) (hll : l.length ≤ 9223372036854775807) (hok : ∀ y ∈ l, okK AskK y) : Tri En 4 [cnfA 0 c, .slice 1 0 l.length] [.tab false (.int .i64) c.cl, .tab false AskK l] (.bl true) (gones 2) := by
  refine Tri.of Tryd.func4 rfl Tryd.call4 rfl ?_
  by_cases h : c.Ok
  · by_cases hl : l.length ≤ 100
    · have s0 := h.s0
      have s1 := h.s1
      have l1 := h.l1
      obtain ⟨n, hn⟩ : ∃ n : Nat, (n : Int) = c.s := ⟨c.s.toNat, by omega⟩
      have ih := hd_0 c h l hl hok n hn l.length 0 _ (by omega) (HInv.zero c n)
      have h1 := heart_new false c l1
      have h2 := rnew_tri false c h n hn
      have h3 := heart_words true c h n hn
      have hw := hW_nought n
      have e1 : IntKind.i64.wrap (2 * c.s) = ((2 * n : Nat) : Int) := by rw [← hn, w64 (by omega) (by omega)]; omega
      refine Goods.to 2000 [.c (.of speaks_tri), .c (.of (may_yes false c h)), .b false, .k 24 (.of h1), .k 26 (.of h2), .c (.of h3), .b false, .l, .stop] mixed (ih) (by kernel_rfl) ?_
      show Yes _
      repeat' apply And.intro
      (all_goals first | rfl | assumption | trivial | omega | (simp [-List.getD_eq_getElem?_getD, e1] <;> omega) | (simp (disch := omega) only [w64, wu64] <;> omega) | (simp (disch := omega) [-List.getD_eq_getElem?_getD, List.getD_cons_zero, List.getD_cons_succ, kCast_self, dfl_pair, dfl_int, w64, wu64, e1] <;> omega) | (rw [Bool.eq_iff_iff]; simp (disch := omega) [-List.getD_eq_getElem?_getD, List.getD_cons_zero, List.getD_cons_succ, kCast_self, dfl_pair, dfl_int, w64, wu64, e1] <;> omega) | (simp_all [-List.getD_eq_getElem?_getD] <;> omega))
    · refine Goods.fin 2000 [.c (.of speaks_tri), .c (.of (may_yes false c h)), .b true] mixed Tryd.func4 ?_
      show Yes _
      repeat' apply And.intro
      (all_goals first | rfl | assumption | trivial | omega | (simp [-List.getD_eq_getElem?_getD] <;> omega) | (simp (disch := omega) only [w64, wu64] <;> omega) | (simp (disch := omega) [-List.getD_eq_getElem?_getD, List.getD_cons_zero, List.getD_cons_succ, kCast_self, dfl_pair, dfl_int, w64, wu64] <;> omega) | (rw [Bool.eq_iff_iff]; simp (disch := omega) [-List.getD_eq_getElem?_getD, List.getD_cons_zero, List.getD_cons_succ, kCast_self, dfl_pair, dfl_int, w64, wu64] <;> omega) | (simp_all [-List.getD_eq_getElem?_getD] <;> omega))
  · refine Goods.fin 2000 [.c (.of speaks_tri), .c (.of (may_no false c hcl h))] mixed Tryd.func4 ?_
    show Yes _
    repeat' apply And.intro
    (all_goals first | rfl | assumption | trivial | omega | (simp [-List.getD_eq_getElem?_getD] <;> omega) | (simp (disch := omega) only [w64, wu64] <;> omega) | (simp (disch := omega) [-List.getD_eq_getElem?_getD, List.getD_cons_zero, List.getD_cons_succ, kCast_self, dfl_pair, dfl_int, w64, wu64] <;> omega) | (rw [Bool.eq_iff_iff]; simp (disch := omega) [-List.getD_eq_getElem?_getD, List.getD_cons_zero, List.getD_cons_succ, kCast_self, dfl_pair, dfl_int, w64, wu64] <;> omega) | (simp_all [-List.getD_eq_getElem?_getD] <;> omega))
theorem HeartDoes_law (d : dats ([(true, (.pair (.int .i64) (.pair (.int .i64) (.pair (.int .i64) (.pair (.int .i64) (.pair (.slice (.int .i64)) .unit)))))), (false, (.slice (.pair (.int .i64) (.pair (.int .i64) (.pair (.int .u64) (.pair (.pair (.int .u64) (.pair (.int .u64) .unit)) .unit))))))] : List (Bool × Sh))) (hd : datsOk ([(true, (.pair (.int .i64) (.pair (.int .i64) (.pair (.int .i64) (.pair (.int .i64) (.pair (.slice (.int .i64)) .unit)))))), (false, (.slice (.pair (.int .i64) (.pair (.int .i64) (.pair (.int .u64) (.pair (.pair (.int .u64) (.pair (.int .u64) .unit)) .unit))))))] : List (Bool × Sh)) d) : Tri En 4 (argsOf ([(true, (.pair (.int .i64) (.pair (.int .i64) (.pair (.int .i64) (.pair (.int .i64) (.pair (.slice (.int .i64)) .unit)))))), (false, (.slice (.pair (.int .i64) (.pair (.int .i64) (.pair (.int .u64) (.pair (.pair (.int .u64) (.pair (.int .u64) .unit)) .unit))))))] : List (Bool × Sh)) d 0) (objsOf ([(true, (.pair (.int .i64) (.pair (.int .i64) (.pair (.int .i64) (.pair (.int .i64) (.pair (.slice (.int .i64)) .unit)))))), (false, (.slice (.pair (.int .i64) (.pair (.int .i64) (.pair (.int .u64) (.pair (.pair (.int .u64) (.pair (.int .u64) .unit)) .unit))))))] : List (Bool × Sh)) d) (.bl true) (gones (cnts ([(true, (.pair (.int .i64) (.pair (.int .i64) (.pair (.int .i64) (.pair (.int .i64) (.pair (.slice (.int .i64)) .unit)))))), (false, (.slice (.pair (.int .i64) (.pair (.int .i64) (.pair (.int .u64) (.pair (.pair (.int .u64) (.pair (.int .u64) .unit)) .unit))))))] : List (Bool × Sh)))) := by
  obtain ⟨⟨w, s, b, t, cl, _⟩, l, _⟩ := d
  obtain ⟨⟨h0, h1, h2, h3, ⟨h4, _⟩, _⟩, ⟨h6, h7⟩, _⟩ := hd
  exact HeartDoes_tri ⟨w, s, b, t, cl⟩ (maxLen_le h4) l (maxLen_le h6) h7
end Go.Proofs.YtdnhnglhdabkgaaDoor.E
