/- WordApart: the law's contract. -/
import Derived.Test.YtlabfkllndmjhaaDoorL01b
namespace Go.Proofs.YtlabfkllndmjhaaDoor.E
open Go
set_option maxRecDepth 100000

theorem get_put {w n a b : Nat} (hn : n < 2 ^ b) (hab : a + b ≤ 64) : getN (putN w n a b) a b = n := by
  apply Nat.eq_of_testBit_eq
  intro i
  rw [getN_bit]
  by_cases hi : i < b
  · rw [putN_bit w n a b (a + i) (by omega) hn, if_pos ⟨by omega, by omega⟩, Nat.add_sub_cancel_left]
    simp [hi]
  · rw [high_bit hn (by omega)]
    simp [hi]
theorem get_apart {w n a b c d : Nat} (hn : n < 2 ^ b) (hcd : c + d ≤ 64) (h : a + b ≤ c ∨ c + d ≤ a) : getN (putN w n a b) c d = getN w c d := by
  apply Nat.eq_of_testBit_eq
  intro i
  rw [getN_bit, getN_bit]
  by_cases hi : i < d
  · rw [putN_bit w n a b (c + i) (by omega) hn, if_neg (by omega)]
  · simp [hi]
theorem sgn_apart {w n a b c d : Nat} (hn : n < 2 ^ b) (hcd : c + d ≤ 64) (h : a + b ≤ c ∨ c + d ≤ a) : sgnN (putN w n a b) c d = sgnN w c d := by
  unfold sgnN; rw [get_apart hn hcd h]
set_option maxHeartbeats 1000000 in
theorem WordApart_tri (w n : Nat) (hw : w < 18446744073709551616) (hn : n < 18446744073709551616) (a b c d : Int) : Tri En 5 [.agg [.int .u64 w, .int .u64 n, .int .i64 a, .int .i64 b, .int .i64 c, .int .i64 d]] [] (.bl true) (gones 0) := by
  refine Tri.of Tryd.func5 rfl Tryd.call5 rfl ?_
  by_cases h : FldOk a b
  · by_cases h' : FldOk c d
    · obtain ⟨a, b, rfl, rfl, hb, hab⟩ := fld_nat h
      obtain ⟨c, d, rfl, rfl, hd, hcd⟩ := fld_nat h'
      have r1 := rright_yes a b h
      have r2 := rright_yes c d h'
      by_cases hf : n < 2 ^ b
      · have p1 := put_yes w n a b hw h hf
        have hx := putN_lt w n a b
        have g1 := get_yes (putN w n a b) a b hx h
        rw [get_put hf hab] at g1
        have g2 := get_yes (putN w n a b) c d hx h'
        have g3 := get_yes w c d hw h'
        have s2 := signed_yes (putN w n a b) c d hx h'
        have s3 := signed_yes w c d hw h'
        by_cases h1 : a + b ≤ c
        · rw [get_apart hf hcd (.inl h1)] at g2
          rw [sgn_apart hf hcd (.inl h1)] at s2
          refine Goods.fin 2000 [.c (.of speaks_tri), .k 24 (.of r1), .k 31 (.of r2), .c (.of p1), .s 53 (some true) true true, .k 66 (.of g1), .s 68 (some true) true true, .k 75 (.of g2), .k 78 (.of g3), .s 79 (some true) true true, .k 83 (.of s2), .k 86 (.of s3)] mixed Tryd.func5 ?_
          show Yes _
          repeat' apply And.intro
          (all_goals first | rfl | assumption | trivial | omega | (simp [-List.getD_eq_getElem?_getD] <;> omega) | (simp (disch := omega) only [w64, wu64] <;> omega) | (simp (disch := omega) [-List.getD_eq_getElem?_getD, List.getD_cons_zero, List.getD_cons_succ, kCast_self, dfl_pair, dfl_int, w64, wu64] <;> omega) | (rw [Bool.eq_iff_iff]; simp (disch := omega) [-List.getD_eq_getElem?_getD, List.getD_cons_zero, List.getD_cons_succ, kCast_self, dfl_pair, dfl_int, w64, wu64] <;> omega) | (simp_all [-List.getD_eq_getElem?_getD] <;> omega))
        · by_cases h2 : c + d ≤ a
          · rw [get_apart hf hcd (.inr h2)] at g2
            rw [sgn_apart hf hcd (.inr h2)] at s2
            refine Goods.fin 2000 [.c (.of speaks_tri), .k 24 (.of r1), .k 31 (.of r2), .c (.of p1), .s 53 (some false) true true, .s 62 (some true) true true, .k 66 (.of g1), .s 68 (some true) true true, .k 75 (.of g2), .k 78 (.of g3), .s 79 (some true) true true, .k 83 (.of s2), .k 86 (.of s3)] mixed Tryd.func5 ?_
            show Yes _
            repeat' apply And.intro
            (all_goals first | rfl | assumption | trivial | omega | (simp [-List.getD_eq_getElem?_getD] <;> omega) | (simp (disch := omega) only [w64, wu64] <;> omega) | (simp (disch := omega) [-List.getD_eq_getElem?_getD, List.getD_cons_zero, List.getD_cons_succ, kCast_self, dfl_pair, dfl_int, w64, wu64] <;> omega) | (rw [Bool.eq_iff_iff]; simp (disch := omega) [-List.getD_eq_getElem?_getD, List.getD_cons_zero, List.getD_cons_succ, kCast_self, dfl_pair, dfl_int, w64, wu64] <;> omega) | (simp_all [-List.getD_eq_getElem?_getD] <;> omega))
          · refine Goods.fin 2000 [.c (.of speaks_tri), .k 24 (.of r1), .k 31 (.of r2), .c (.of p1), .s 53 (some false) true true, .s 62 (some false) true true, .k 66 (.of g1), .s 68 (some true) true true] mixed Tryd.func5 ?_
            show Yes _
            repeat' apply And.intro
            (all_goals first | rfl | assumption | trivial | omega | (simp [-List.getD_eq_getElem?_getD] <;> omega) | (simp (disch := omega) only [w64, wu64] <;> omega) | (simp (disch := omega) [-List.getD_eq_getElem?_getD, List.getD_cons_zero, List.getD_cons_succ, kCast_self, dfl_pair, dfl_int, w64, wu64] <;> omega) | (rw [Bool.eq_iff_iff]; simp (disch := omega) [-List.getD_eq_getElem?_getD, List.getD_cons_zero, List.getD_cons_succ, kCast_self, dfl_pair, dfl_int, w64, wu64] <;> omega) | (simp_all [-List.getD_eq_getElem?_getD] <;> omega))
      · have p1 := put_great w n a b h hf
        refine Goods.fin 2000 [.c (.of speaks_tri), .k 24 (.of r1), .k 31 (.of r2), .c (.of p1)] mixed Tryd.func5 ?_
        show Yes _
        repeat' apply And.intro
        (all_goals first | rfl | assumption | trivial | omega | (simp [-List.getD_eq_getElem?_getD] <;> omega) | (simp (disch := omega) only [w64, wu64] <;> omega) | (simp (disch := omega) [-List.getD_eq_getElem?_getD, List.getD_cons_zero, List.getD_cons_succ, kCast_self, dfl_pair, dfl_int, w64, wu64] <;> omega) | (rw [Bool.eq_iff_iff]; simp (disch := omega) [-List.getD_eq_getElem?_getD, List.getD_cons_zero, List.getD_cons_succ, kCast_self, dfl_pair, dfl_int, w64, wu64] <;> omega) | (simp_all [-List.getD_eq_getElem?_getD] <;> omega))
    · obtain ⟨a, b, rfl, rfl, hb, hab⟩ := fld_nat h
      have r1 := rright_yes a b h
      have r2 := rright_no c d h'
      refine Goods.fin 2000 [.c (.of speaks_tri), .k 24 (.of r1), .k 31 (.of r2)] mixed Tryd.func5 ?_
      show Yes _
      repeat' apply And.intro
      (all_goals first | rfl | assumption | trivial | omega | (simp [-List.getD_eq_getElem?_getD] <;> omega) | (simp (disch := omega) only [w64, wu64] <;> omega) | (simp (disch := omega) [-List.getD_eq_getElem?_getD, List.getD_cons_zero, List.getD_cons_succ, kCast_self, dfl_pair, dfl_int, w64, wu64] <;> omega) | (rw [Bool.eq_iff_iff]; simp (disch := omega) [-List.getD_eq_getElem?_getD, List.getD_cons_zero, List.getD_cons_succ, kCast_self, dfl_pair, dfl_int, w64, wu64] <;> omega) | (simp_all [-List.getD_eq_getElem?_getD] <;> omega))
  · have r1 := rright_no a b h
    refine Goods.fin 2000 [.c (.of speaks_tri), .k 24 (.of r1)] mixed Tryd.func5 ?_
    show Yes _
    repeat' apply And.intro
    (all_goals first | rfl | assumption | trivial | omega | (simp [-List.getD_eq_getElem?_getD] <;> omega) | (simp (disch := omega) only [w64, wu64] <;> omega) | (simp (disch := omega) [-List.getD_eq_getElem?_getD, List.getD_cons_zero, List.getD_cons_succ, kCast_self, dfl_pair, dfl_int, w64, wu64] <;> omega) | (rw [Bool.eq_iff_iff]; simp (disch := omega) [-List.getD_eq_getElem?_getD, List.getD_cons_zero, List.getD_cons_succ, kCast_self, dfl_pair, dfl_int, w64, wu64] <;> omega) | (simp_all [-List.getD_eq_getElem?_getD] <;> omega))
theorem WordApart_law (d : dats ([(true, (.pair (.int .u64) (.pair (.int .u64) (.pair (.pair (.int .i64) (.pair (.int .i64) .unit)) (.pair (.pair (.int .i64) (.pair (.int .i64) .unit)) .unit)))))] : List (Bool × Sh))) (hd : datsOk ([(true, (.pair (.int .u64) (.pair (.int .u64) (.pair (.pair (.int .i64) (.pair (.int .i64) .unit)) (.pair (.pair (.int .i64) (.pair (.int .i64) .unit)) .unit)))))] : List (Bool × Sh)) d) : Tri En 5 (argsOf ([(true, (.pair (.int .u64) (.pair (.int .u64) (.pair (.pair (.int .i64) (.pair (.int .i64) .unit)) (.pair (.pair (.int .i64) (.pair (.int .i64) .unit)) .unit)))))] : List (Bool × Sh)) d 0) (objsOf ([(true, (.pair (.int .u64) (.pair (.int .u64) (.pair (.pair (.int .i64) (.pair (.int .i64) .unit)) (.pair (.pair (.int .i64) (.pair (.int .i64) .unit)) .unit)))))] : List (Bool × Sh)) d) (.bl true) (gones (cnts ([(true, (.pair (.int .u64) (.pair (.int .u64) (.pair (.pair (.int .i64) (.pair (.int .i64) .unit)) (.pair (.pair (.int .i64) (.pair (.int .i64) .unit)) .unit)))))] : List (Bool × Sh)))) := by
  obtain ⟨⟨w, n, ⟨a, b, _⟩, ⟨c, d, _⟩, _⟩, _⟩ := d
  obtain ⟨⟨h0, h1, _⟩, _⟩ := hd
  obtain ⟨w, rfl, hw⟩ := u64_nat h0
  obtain ⟨n, rfl, hn⟩ := u64_nat h1
  exact WordApart_tri w n hw hn a b c d
end Go.Proofs.YtlabfkllndmjhaaDoor.E
