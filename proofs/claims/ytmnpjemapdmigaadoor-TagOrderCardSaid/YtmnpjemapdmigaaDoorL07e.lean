/- TagOrder: the law's contract, concluded. -/
import Derived.Test.YtmnpjemapdmigaaDoorL07d
namespace Go.Proofs.YtmnpjemapdmigaaDoor.E
open Go
set_option maxRecDepth 100000

section
variable (wk sl : Nat) (rs : List RefT) (hwk : wk ≤ 255) (hsl : sl ≤ 255) (hn : rs.length ≤ 60) (hr : ∀ i, i < rs.length → Ref64 (rs.getD i refD))
include hwk hsl hn hr
set_option maxHeartbeats 1000000 in
theorem ord_0 : ∀ (j k : Nat) (m : MemS), k + j = rs.length → m.words = tabW (3 * rs.length) (ordW rs k) → m.faults = 0 → Goods (gOrd rs) ⟨.none, lp Tryd.f5 0,
    [(0, .slice 0 0 rs.length), (1, .int .u8 wk), (2, .int .u8 sl), (7, .int .i64 rs.length), (8, .ptr 1 0 0), (24, .slice 0 0 rs.length), (25, .int .i64 rs.length), (26, .int .i64 k)], hp [.tab false RefK rs, memC 2 m, memT m]⟩
  | 0, k, m, h, hm, hf => by
    obtain rfl : k = rs.length := by omega
    have ih := ord_a wk sl rs hn rs.length 0 m (by omega) hm hf
    have cA := scan_new m 0 rs.length wk sl
    have cB := scan_new m rs.length rs.length wk sl
    have cC := scan_new m 0 (3 * rs.length : Nat) wk sl
    refine Goods.to 2000 [.b false, .k 63 (.of cA), .k 71 (.of cB), .k 79 (.of cC), .l, .stop] mixed (ih) (by kernel_rfl) ?_
    show Yes _
    repeat' apply And.intro
    (all_goals first | rfl | assumption | trivial | omega | (simp [-List.getD_eq_getElem?_getD] <;> omega) | (simp (disch := omega) only [w64, wu64] <;> omega) | (simp (disch := omega) [-List.getD_eq_getElem?_getD, List.getD_cons_zero, List.getD_cons_succ, kCast_self, dfl_pair, dfl_int, w64, wu64] <;> omega) | (rw [Bool.eq_iff_iff]; simp (disch := omega) [-List.getD_eq_getElem?_getD, List.getD_cons_zero, List.getD_cons_succ, kCast_self, dfl_pair, dfl_int, w64, wu64] <;> omega) | (simp_all [-List.getD_eq_getElem?_getD] <;> omega))
  | j + 1, k, m, h, hm, hf => by
    have hl : m.words.length = 3 * rs.length := by rw [hm, tabW_len]
    obtain ⟨r, hx⟩ : ∃ r, rs.getD k refD = r := ⟨_, rfl⟩
    obtain ⟨r0, hx0⟩ : ∃ r, rs.getD 0 refD = r := ⟨_, rfl⟩
    have ho := of_any r (by rw [← hx]; exact hr k (by omega))
    have ho0 := of_any r0 (by rw [← hx0]; exact hr 0 (by omega))
    obtain ⟨a, b, c⟩ := r
    obtain ⟨a0, b0, c0⟩ := r0
    obtain ⟨m1, h1⟩ : ∃ m1, (m.acc 2 (k : Nat)).put (k : Nat) (ofW (a, b, c)) = m1 := ⟨_, rfl⟩
    obtain ⟨m2, h2⟩ : ∃ m2, (m1.acc 2 (2 * rs.length - 1 - k : Nat)).put (2 * rs.length - 1 - k : Nat) (ofW (a, b, c)) = m2 := ⟨_, rfl⟩
    obtain ⟨m3, h3⟩ : ∃ m3, (m2.acc 2 (2 * rs.length + k : Nat)).put (2 * rs.length + k : Nat) (ofW (a0, b0, c0)) = m3 := ⟨_, rfl⟩
    have s1 := mem_store m (k : Nat) (ofW (a, b, c))
    rw [h1] at s1
    have s2 := mem_store m1 (2 * rs.length - 1 - k : Nat) (ofW (a, b, c))
    rw [h2] at s2
    have s3 := mem_store m2 (2 * rs.length + k : Nat) (ofW (a0, b0, c0))
    rw [h3] at s3
    have i1 : m.inr ((k : Nat) : Int) := ⟨by omega, by omega⟩
    have l1 : m1.words.length = 3 * rs.length := by rw [← h1, MemS.put_len, hl]
    have i2 : m1.inr ((2 * rs.length - 1 - k : Nat) : Int) := ⟨by omega, by omega⟩
    have l2 : m2.words.length = 3 * rs.length := by rw [← h2, MemS.put_len, l1]
    have i3 : m2.inr ((2 * rs.length + k : Nat) : Int) := ⟨by omega, by omega⟩
    have ih := ord_0 j (k + 1) m3 (by omega) (by
      rw [← h3, MemS.put_words i3, ← h2, MemS.put_words i2, ← h1, MemS.put_words i1, hm, Int.toNat_natCast, Int.toNat_natCast, Int.toNat_natCast, tabW_set, tabW_set, tabW_set]
      refine tabW_congr fun q _ => ?_
      rw [← ordW_step rs k q (by omega), hx, hx0]) (by rw [← h3, MemS.put_faults i3, ← h2, MemS.put_faults i2, ← h1, MemS.put_faults i1, hf])
    have hy : rs.getD k (dfl RefK) = (a, b, c) := hx
    have hy0 : rs.getD 0 (dfl RefK) = (a0, b0, c0) := hx0
    refine Goods.to 2000 [.b true, .k 34 (.of ho), .k 35 (.of s1), .c (.of ho), .c (.of s2), .c (.of ho0), .c (.of s3), .l, .stop] mixed (ih) (by kernel_rfl) ?_
    show Yes _
    repeat' apply And.intro
    (all_goals first | rfl | assumption | trivial | omega | (simp [-List.getD_eq_getElem?_getD, hy, hy0] <;> omega) | (simp (disch := omega) only [w64, wu64] <;> omega) | (simp (disch := omega) [-List.getD_eq_getElem?_getD, List.getD_cons_zero, List.getD_cons_succ, kCast_self, dfl_pair, dfl_int, w64, wu64, hy, hy0] <;> omega) | (rw [Bool.eq_iff_iff]; simp (disch := omega) [-List.getD_eq_getElem?_getD, List.getD_cons_zero, List.getD_cons_succ, kCast_self, dfl_pair, dfl_int, w64, wu64, hy, hy0] <;> omega) | (simp_all [-List.getD_eq_getElem?_getD] <;> omega))
end
theorem TagOrder_tri (wk sl : Nat) (rs : List RefT) (hwk : wk ≤ 255) (hsl : sl ≤ 255) (hr : ∀ i, i < rs.length → Ref64 (rs.getD i refD)) (_ : rs.length ≤ 9223372036854775807) : Tri En 5 [.slice 0 0 rs.length, .int .u8 wk, .int .u8 sl] [.tab false RefK rs] (.bl true) (gones 1) := by
  refine Tri.of Tryd.func5 rfl Tryd.call5 rfl ?_
  by_cases hn : rs.length ≤ 60
  · have hm := mem_new (3 * rs.length : Nat)
    rw [show (min (max ((3 * rs.length : Nat) : Int) 0) 16777216).toNat = 3 * rs.length by omega] at hm
    have ih := ord_0 wk sl rs hwk hsl hn hr rs.length 0 ⟨List.replicate (3 * rs.length) 0, 0, 0, 0, 0⟩ (by omega) (by
      rw [tabW_zero]
      refine tabW_congr fun i _ => ?_
      simp [ordW]) rfl
    refine Goods.to 2000 [.c (.of speaks_tri), .b false, .c (.of hm), .l, .stop] mixed (ih) (by kernel_rfl) ?_
    show Yes _
    repeat' apply And.intro
    (all_goals first | rfl | assumption | trivial | omega | (simp [-List.getD_eq_getElem?_getD] <;> omega) | (simp (disch := omega) only [w64, wu64] <;> omega) | (simp (disch := omega) [-List.getD_eq_getElem?_getD, List.getD_cons_zero, List.getD_cons_succ, kCast_self, dfl_pair, dfl_int, w64, wu64] <;> omega) | (rw [Bool.eq_iff_iff]; simp (disch := omega) [-List.getD_eq_getElem?_getD, List.getD_cons_zero, List.getD_cons_succ, kCast_self, dfl_pair, dfl_int, w64, wu64] <;> omega) | (simp_all [-List.getD_eq_getElem?_getD] <;> omega))
  · refine Goods.fin 2000 [.c (.of speaks_tri), .b true] mixed Tryd.func5 ?_
    show Yes _
    repeat' apply And.intro
    (all_goals first | rfl | assumption | trivial | omega | (simp [-List.getD_eq_getElem?_getD] <;> omega) | (simp (disch := omega) only [w64, wu64] <;> omega) | (simp (disch := omega) [-List.getD_eq_getElem?_getD, List.getD_cons_zero, List.getD_cons_succ, kCast_self, dfl_pair, dfl_int, w64, wu64] <;> omega) | (rw [Bool.eq_iff_iff]; simp (disch := omega) [-List.getD_eq_getElem?_getD, List.getD_cons_zero, List.getD_cons_succ, kCast_self, dfl_pair, dfl_int, w64, wu64] <;> omega) | (simp_all [-List.getD_eq_getElem?_getD] <;> omega))
theorem TagOrder_law (d : dats ([(false, (.slice (.pair (.int .i64) (.pair (.int .i64) (.pair (.int .i64) .unit))))), (false, (.int .u8)), (false, (.int .u8))] : List (Bool × Sh))) (hd : datsOk ([(false, (.slice (.pair (.int .i64) (.pair (.int .i64) (.pair (.int .i64) .unit))))), (false, (.int .u8)), (false, (.int .u8))] : List (Bool × Sh)) d) : Tri En 5 (argsOf ([(false, (.slice (.pair (.int .i64) (.pair (.int .i64) (.pair (.int .i64) .unit))))), (false, (.int .u8)), (false, (.int .u8))] : List (Bool × Sh)) d 0) (objsOf ([(false, (.slice (.pair (.int .i64) (.pair (.int .i64) (.pair (.int .i64) .unit))))), (false, (.int .u8)), (false, (.int .u8))] : List (Bool × Sh)) d) (.bl true) (gones (cnts ([(false, (.slice (.pair (.int .i64) (.pair (.int .i64) (.pair (.int .i64) .unit))))), (false, (.int .u8)), (false, (.int .u8))] : List (Bool × Sh)))) := by
  obtain ⟨rs, wk, sl, _⟩ := d
  obtain ⟨⟨h0, h1⟩, h2, h3, _⟩ := hd
  obtain ⟨wk, rfl, hwk⟩ := wf_u8 h2
  obtain ⟨sl, rfl, hsl⟩ := wf_u8 h3
  exact TagOrder_tri wk sl rs hwk hsl (ref64_ok h1) (maxLen_le h0)
end Go.Proofs.YtmnpjemapdmigaaDoor.E
