/- WholeTiles: all superblocks; the law's contract. -/
import Derived.Test.YtcicfbccdgkfhaaLTh
namespace Go.Proofs.Ytcicfbccdgkfhaa.E
set_option linter.unusedSimpArgs false
set_option linter.unusedVariables false
open Go
set_option maxRecDepth 100000

/-- A class's blocks, in a superblock. -/
theorem cap_parts {c : Cnf} (h : c.Ok) {k : Nat} (hk : k < c.cl.length) : ∃ z m : Nat, c.cl.getD k 0 = z ∧ 16 ≤ z ∧ z ≤ 512 ∧ capN c k = m ∧ 2 ≤ m ∧ m ≤ 64 ∧ m * z ≤ 1024 ∧ 1024 < m * z + z := by
  obtain ⟨z, z1, z2, z3, _, z5, z6, z7⟩ := cap_eq h hk
  refine ⟨z, 1024 / z, z1, z2, z3, z5, z6, z7, Nat.div_mul_le_self 1024 z, ?_⟩
  have := Nat.lt_succ_self (1024 / z)
  have h2 := (Nat.div_lt_iff_lt_mul (by omega : 0 < z)).1 this
  rw [Nat.succ_mul] at h2
  exact h2
section
set_option maxHeartbeats 4000000
theorem wt_end (c : Cnf) (hc : c.Ok) (cs : List Int) (s : Nat) (hs : (s : Int) = c.s) (hs8 : c.s ≤ 8) (l : List IvT) (hl : TI l (65536 + 1024 * s)) (hn : l.length ≤ 65 * s) : Goods (gW c cs) (wOut c cs l s) := by
  have s0 := hc.s0
  have h1 := bytes_tri l 65536 _ hl.ch (by omega) (by omega) (by omega)
  have h2 := most_tri false c hc
  obtain ⟨n, l', rfl, hn16⟩ := hl.first (by omega)
  have h3 := put_in l' 65536 _ n hl.ch (by simp at hn; omega) (by omega) (by omega) hn16
  have h4 := aend_tri false c hc
  have h5 := put_end ((65536, n) :: l') 65536 _ (65536 + c.s * 1024) 1 hl.ch (by omega) (by omega) (by omega) (by omega) (by omega) (by omega)
  generalize (65536, n) :: l' = l at *
  refine Goods.fin 2000 [.b false, .k 113 (.of h1), .k 115 (.of h2), .s 116 (some true) true true, .k 119 (.of h3), .k 124 (.of h4), .k 126 (.of h5)] mixed Try.func5 ?_
  show Yes _
  repeat' apply And.intro
  (all_goals first | rfl | assumption | trivial | omega | (simp [-List.getD_eq_getElem?_getD] <;> omega) | (simp (disch := omega) only [w64, wu64] <;> omega) | (simp (disch := omega) [-List.getD_eq_getElem?_getD, List.getD_cons_zero, List.getD_cons_succ, kCast_self, dfl_pair, dfl_int, w64, wu64] <;> omega) | (rw [Bool.eq_iff_iff]; simp (disch := omega) [-List.getD_eq_getElem?_getD, List.getD_cons_zero, List.getD_cons_succ, kCast_self, dfl_pair, dfl_int, w64, wu64] <;> omega) | (simp_all [-List.getD_eq_getElem?_getD] <;> omega))
theorem wt_out (c : Cnf) (hc : c.Ok) (cs : List Int) (hcs : cs.length ≤ 60) (hok : ∀ y ∈ cs, okK (.int .u8) y) (hs8 : c.s ≤ 8) : ∀ (j s : Nat) (l : List IvT), (s + j : Nat) = c.s → TI l (65536 + 1024 * s) → l.length ≤ 65 * s → Goods (gW c cs) (wOut c cs l s)
  | 0, s, l, hs, hl, hn => wt_end c hc cs s (by omega) hs8 l hl hn
  | j + 1, s, l, hs, hl, hn => by
    have l0 := hc.l0
    have l1 := hc.l1
    have next := fun l hl hn => wt_out c hc cs hcs hok hs8 j (s + 1) l (by omega) hl hn
    have g0 : IntKind.i64.wrap (65536 + IntKind.i64.wrap (1024 * (s : Int))) = ((65536 + 1024 * s : Nat) : Int) := by
      rw [w64 (x := 1024 * (s : Int)) (by omega) (by omega), w64 (by omega) (by omega)]; omega
    by_cases hlt : s < cs.length
    · obtain ⟨x, hx⟩ : ∃ x : Int, cs.getD s 0 = x := ⟨_, rfl⟩
      have hxo : 0 ≤ x ∧ x < 256 := by
        have := hok (cs.getD s 0) (by simp [List.getD, hlt])
        rw [hx] at this
        obtain ⟨y, rfl, hy⟩ := wf_u8 this
        omega
      obtain ⟨k, hkx⟩ : ∃ k : Nat, (k : Int) = x % c.cl.length := ⟨(x % c.cl.length).toNat, by have := Int.emod_nonneg x (show (c.cl.length : Int) ≠ 0 by omega); omega⟩
      have hk : k < c.cl.length := by have := Int.emod_lt_of_pos x (show (0 : Int) < c.cl.length by omega); omega
      have gk : (IntKind.i64.wrap (cs.getD s 0)).tmod (c.cl.length : Int) = (k : Int) := by
        rw [hx, w64 (by omega) (by omega), Int.tmod_eq_emod_of_nonneg hxo.1, hkx]
      obtain ⟨z, m, z1, z2, z3, z4, z5, z6, z7, z8⟩ := cap_parts hc hk
      have h1 := cap_tri false c hc k
      rw [z4] at h1
      have ih := wt_in c hc cs s (by omega) hs8 k hk z z1 z2 z3 m z4 z5 z6 z7 z8 next m 0 l (65536 + 1024 * s) (by omega) (by omega) hl (by omega)
      refine Goods.to 2000 [.b true, .b true, .c (.of h1), .l, .stop] mixed (ih) (by kernel_rfl) ?_
      show Yes _
      repeat' apply And.intro
      all_goals try first | exact g0 | exact gk
      (all_goals first | rfl | assumption | trivial | omega | (simp [-List.getD_eq_getElem?_getD] <;> omega) | (simp (disch := omega) only [w64, wu64] <;> omega) | (simp (disch := omega) [-List.getD_eq_getElem?_getD, List.getD_cons_zero, List.getD_cons_succ, kCast_self, dfl_pair, dfl_int, w64, wu64] <;> omega) | (rw [Bool.eq_iff_iff]; simp (disch := omega) [-List.getD_eq_getElem?_getD, List.getD_cons_zero, List.getD_cons_succ, kCast_self, dfl_pair, dfl_int, w64, wu64] <;> omega) | (simp_all [-List.getD_eq_getElem?_getD] <;> omega))
    · obtain ⟨z, m, z1, z2, z3, z4, z5, z6, z7, z8⟩ := cap_parts hc (k := 0) (by omega)
      have h1 := cap_tri false c hc ((0 : Nat) : Int)
      rw [z4] at h1
      have ih := wt_in c hc cs s (by omega) hs8 0 (by omega) z z1 z2 z3 m z4 z5 z6 z7 z8 next m 0 l (65536 + 1024 * s) (by omega) (by omega) hl (by omega)
      refine Goods.to 2000 [.b true, .b false, .c (.of h1), .l, .stop] mixed (ih) (by kernel_rfl) ?_
      show Yes _
      repeat' apply And.intro
      all_goals try first | exact g0
      (all_goals first | rfl | assumption | trivial | omega | (simp [-List.getD_eq_getElem?_getD] <;> omega) | (simp (disch := omega) only [w64, wu64] <;> omega) | (simp (disch := omega) [-List.getD_eq_getElem?_getD, List.getD_cons_zero, List.getD_cons_succ, kCast_self, dfl_pair, dfl_int, w64, wu64] <;> omega) | (rw [Bool.eq_iff_iff]; simp (disch := omega) [-List.getD_eq_getElem?_getD, List.getD_cons_zero, List.getD_cons_succ, kCast_self, dfl_pair, dfl_int, w64, wu64] <;> omega) | (simp_all [-List.getD_eq_getElem?_getD] <;> omega))
theorem WholeTiles_tri (c : Cnf) (hcl : c.cl.length ≤ 9223372036854775807) (cs : List Int) (hcsl : cs.length ≤ 9223372036854775807) (hok : ∀ y ∈ cs, okK (.int .u8) y) : Tri En 5 [cnfA 0 c, .slice 1 0 cs.length] [.tab false (.int .i64) c.cl, .tab false (.int .u8) cs] (.bl true) (gones 2) := by
  have h1 := put_nil
  have h2 := drop_one
  refine Tri.of Try.func5 rfl Try.call5 rfl ?_
  by_cases h : c.Ok
  · have s0 := h.s0
    have h3 := may_yes false c h
    by_cases hs : c.s ≤ 8
    · by_cases hl : cs.length ≤ 60
      · obtain ⟨n, hn⟩ : ∃ n : Nat, (n : Int) = c.s := ⟨c.s.toNat, by omega⟩
        have ih := wt_out c h cs hl hok hs n 0 [] (by omega) TI.nil (by simp)
        refine Goods.to 2000 [.c (.of h1), .c (.of h2), .c (.of h3), .s 22 (some false) true true, .b false, .l, .stop] mixed (ih) (by kernel_rfl) ?_
        show Yes _
        repeat' apply And.intro
        (all_goals first | rfl | assumption | trivial | omega | (simp [-List.getD_eq_getElem?_getD] <;> omega) | (simp (disch := omega) only [w64, wu64] <;> omega) | (simp (disch := omega) [-List.getD_eq_getElem?_getD, List.getD_cons_zero, List.getD_cons_succ, kCast_self, dfl_pair, dfl_int, w64, wu64] <;> omega) | (rw [Bool.eq_iff_iff]; simp (disch := omega) [-List.getD_eq_getElem?_getD, List.getD_cons_zero, List.getD_cons_succ, kCast_self, dfl_pair, dfl_int, w64, wu64] <;> omega) | (simp_all [-List.getD_eq_getElem?_getD] <;> omega))
      · refine Goods.fin 2000 [.c (.of h1), .c (.of h2), .c (.of h3), .s 22 (some false) true true, .b true] mixed Try.func5 ?_
        show Yes _
        repeat' apply And.intro
        (all_goals first | rfl | assumption | trivial | omega | (simp [-List.getD_eq_getElem?_getD] <;> omega) | (simp (disch := omega) only [w64, wu64] <;> omega) | (simp (disch := omega) [-List.getD_eq_getElem?_getD, List.getD_cons_zero, List.getD_cons_succ, kCast_self, dfl_pair, dfl_int, w64, wu64] <;> omega) | (rw [Bool.eq_iff_iff]; simp (disch := omega) [-List.getD_eq_getElem?_getD, List.getD_cons_zero, List.getD_cons_succ, kCast_self, dfl_pair, dfl_int, w64, wu64] <;> omega) | (simp_all [-List.getD_eq_getElem?_getD] <;> omega))
    · refine Goods.fin 2000 [.c (.of h1), .c (.of h2), .c (.of h3), .s 22 (some true) true true] mixed Try.func5 ?_
      show Yes _
      repeat' apply And.intro
      (all_goals first | rfl | assumption | trivial | omega | (simp [-List.getD_eq_getElem?_getD] <;> omega) | (simp (disch := omega) only [w64, wu64] <;> omega) | (simp (disch := omega) [-List.getD_eq_getElem?_getD, List.getD_cons_zero, List.getD_cons_succ, kCast_self, dfl_pair, dfl_int, w64, wu64] <;> omega) | (rw [Bool.eq_iff_iff]; simp (disch := omega) [-List.getD_eq_getElem?_getD, List.getD_cons_zero, List.getD_cons_succ, kCast_self, dfl_pair, dfl_int, w64, wu64] <;> omega) | (simp_all [-List.getD_eq_getElem?_getD] <;> omega))
  · have h3 := may_no false c hcl h
    refine Goods.fin 2000 [.c (.of h1), .c (.of h2), .c (.of h3)] mixed Try.func5 ?_
    show Yes _
    repeat' apply And.intro
    (all_goals first | rfl | assumption | trivial | omega | (simp [-List.getD_eq_getElem?_getD] <;> omega) | (simp (disch := omega) only [w64, wu64] <;> omega) | (simp (disch := omega) [-List.getD_eq_getElem?_getD, List.getD_cons_zero, List.getD_cons_succ, kCast_self, dfl_pair, dfl_int, w64, wu64] <;> omega) | (rw [Bool.eq_iff_iff]; simp (disch := omega) [-List.getD_eq_getElem?_getD, List.getD_cons_zero, List.getD_cons_succ, kCast_self, dfl_pair, dfl_int, w64, wu64] <;> omega) | (simp_all [-List.getD_eq_getElem?_getD] <;> omega))
end
theorem WholeTiles_law (d : dats ([(true, (.pair (.int .i64) (.pair (.int .i64) (.pair (.int .i64) (.pair (.int .i64) (.pair (.slice (.int .i64)) .unit)))))), (false, (.slice (.int .u8)))] : List (Bool × Sh))) (hd : datsOk ([(true, (.pair (.int .i64) (.pair (.int .i64) (.pair (.int .i64) (.pair (.int .i64) (.pair (.slice (.int .i64)) .unit)))))), (false, (.slice (.int .u8)))] : List (Bool × Sh)) d) : Tri En 5 (argsOf ([(true, (.pair (.int .i64) (.pair (.int .i64) (.pair (.int .i64) (.pair (.int .i64) (.pair (.slice (.int .i64)) .unit)))))), (false, (.slice (.int .u8)))] : List (Bool × Sh)) d 0) (objsOf ([(true, (.pair (.int .i64) (.pair (.int .i64) (.pair (.int .i64) (.pair (.int .i64) (.pair (.slice (.int .i64)) .unit)))))), (false, (.slice (.int .u8)))] : List (Bool × Sh)) d) (.bl true) (gones (cnts ([(true, (.pair (.int .i64) (.pair (.int .i64) (.pair (.int .i64) (.pair (.int .i64) (.pair (.slice (.int .i64)) .unit)))))), (false, (.slice (.int .u8)))] : List (Bool × Sh)))) := by
  obtain ⟨⟨w, s, b, t, cl, _⟩, cs, _⟩ := d
  obtain ⟨⟨h0, h1, h2, h3, ⟨h4, _⟩, _⟩, ⟨h5, h6⟩, _⟩ := hd
  exact WholeTiles_tri ⟨w, s, b, t, cl⟩ (maxLen_le h4) cs (maxLen_le h5) h6
end Go.Proofs.Ytcicfbccdgkfhaa.E
