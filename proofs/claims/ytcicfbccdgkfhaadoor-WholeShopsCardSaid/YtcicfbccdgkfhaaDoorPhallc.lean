/- Package ask: the shop, opened. -/
import Derived.Test.YtcicfbccdgkfhaaDoorPhallb
namespace Go.Proofs.YtcicfbccdgkfhaaDoor.E
set_option linter.unusedSimpArgs false
set_option linter.unusedVariables false
open Go
set_option maxRecDepth 100000

set_option maxHeartbeats 2000000 in
theorem check_no (own : Bool) (c : Cnf) (hc : c.cl.length ≤ 9223372036854775807) (h : ¬ c.Ok) : Tri En 54 [cnfA 0 c] [.tab own (.int .i64) c.cl] (.int .i64 1) [.tab own (.int .i64) c.cl] := by
  by_cases hw : 1 ≤ c.w ∧ c.w ≤ 64
  · have i1 := in_yes c.w 1 64 hw.1 hw.2
    by_cases hs : 1 ≤ c.s ∧ c.s ≤ 64
    · have i2 := in_yes c.s 1 64 hs.1 hs.2
      by_cases hb : 1 ≤ c.b ∧ c.b ≤ 64
      · have i3 := in_yes c.b 1 64 hb.1 hb.2
        by_cases ht : 0 ≤ c.t ∧ c.t ≤ 8
        · have i4 := in_yes c.t 0 8 ht.1 ht.2
          by_cases hl : 1 ≤ c.cl.length ∧ c.cl.length ≤ 16
          · have i5 := in_yes c.cl.length 1 16 (by omega) (by omega)
            have ih := check_0 own c hl.2 c.cl.length 0 0 (by omega)
            rw [List.drop_zero, if_neg fun x => h ⟨⟨hw.1, hw.2, hs.1, hs.2, hb.1, hb.2, ht.1, ht.2⟩, hl.1, hl.2, x⟩] at ih
            refine Tri.of Tryd.func54 rfl Tryd.call54 rfl ?_
            refine Goods.to 2000 [.c (.of i1), .c (.of i2), .c (.of i3), .c (.of i4), .c (.of i5), .l, .stop] mixed (ih) (by kernel_rfl) ?_
            show Yes _
            repeat' apply And.intro
            (all_goals first | rfl | assumption | trivial | omega | (simp [-List.getD_eq_getElem?_getD] <;> omega) | (simp (disch := omega) only [w64, wu64] <;> omega) | (simp (disch := omega) [-List.getD_eq_getElem?_getD, List.getD_cons_zero, List.getD_cons_succ, kCast_self, dfl_pair, dfl_int, w64, wu64] <;> omega) | (rw [Bool.eq_iff_iff]; simp (disch := omega) [-List.getD_eq_getElem?_getD, List.getD_cons_zero, List.getD_cons_succ, kCast_self, dfl_pair, dfl_int, w64, wu64] <;> omega) | (simp_all [-List.getD_eq_getElem?_getD] <;> omega))
          · have i5 := in_no c.cl.length 1 16 (by omega)
            refine Tri.of Tryd.func54 rfl Tryd.call54 rfl ?_
            refine Goods.fin 2000 [.c (.of i1), .c (.of i2), .c (.of i3), .c (.of i4), .c (.of i5)] mixed Tryd.func54 ?_
            show Yes _
            repeat' apply And.intro
            (all_goals first | rfl | assumption | trivial | omega | (simp [-List.getD_eq_getElem?_getD] <;> omega) | (simp (disch := omega) only [w64, wu64] <;> omega) | (simp (disch := omega) [-List.getD_eq_getElem?_getD, List.getD_cons_zero, List.getD_cons_succ, kCast_self, dfl_pair, dfl_int, w64, wu64] <;> omega) | (rw [Bool.eq_iff_iff]; simp (disch := omega) [-List.getD_eq_getElem?_getD, List.getD_cons_zero, List.getD_cons_succ, kCast_self, dfl_pair, dfl_int, w64, wu64] <;> omega) | (simp_all [-List.getD_eq_getElem?_getD] <;> omega))
        · have i4 := in_no c.t 0 8 ht
          refine Tri.of Tryd.func54 rfl Tryd.call54 rfl ?_
          refine Goods.fin 2000 [.c (.of i1), .c (.of i2), .c (.of i3), .c (.of i4)] mixed Tryd.func54 ?_
          show Yes _
          repeat' apply And.intro
          (all_goals first | rfl | assumption | trivial | omega | (simp [-List.getD_eq_getElem?_getD] <;> omega) | (simp (disch := omega) only [w64, wu64] <;> omega) | (simp (disch := omega) [-List.getD_eq_getElem?_getD, List.getD_cons_zero, List.getD_cons_succ, kCast_self, dfl_pair, dfl_int, w64, wu64] <;> omega) | (rw [Bool.eq_iff_iff]; simp (disch := omega) [-List.getD_eq_getElem?_getD, List.getD_cons_zero, List.getD_cons_succ, kCast_self, dfl_pair, dfl_int, w64, wu64] <;> omega) | (simp_all [-List.getD_eq_getElem?_getD] <;> omega))
      · have i3 := in_no c.b 1 64 hb
        refine Tri.of Tryd.func54 rfl Tryd.call54 rfl ?_
        refine Goods.fin 2000 [.c (.of i1), .c (.of i2), .c (.of i3)] mixed Tryd.func54 ?_
        show Yes _
        repeat' apply And.intro
        (all_goals first | rfl | assumption | trivial | omega | (simp [-List.getD_eq_getElem?_getD] <;> omega) | (simp (disch := omega) only [w64, wu64] <;> omega) | (simp (disch := omega) [-List.getD_eq_getElem?_getD, List.getD_cons_zero, List.getD_cons_succ, kCast_self, dfl_pair, dfl_int, w64, wu64] <;> omega) | (rw [Bool.eq_iff_iff]; simp (disch := omega) [-List.getD_eq_getElem?_getD, List.getD_cons_zero, List.getD_cons_succ, kCast_self, dfl_pair, dfl_int, w64, wu64] <;> omega) | (simp_all [-List.getD_eq_getElem?_getD] <;> omega))
    · have i2 := in_no c.s 1 64 hs
      refine Tri.of Tryd.func54 rfl Tryd.call54 rfl ?_
      refine Goods.fin 2000 [.c (.of i1), .c (.of i2)] mixed Tryd.func54 ?_
      show Yes _
      repeat' apply And.intro
      (all_goals first | rfl | assumption | trivial | omega | (simp [-List.getD_eq_getElem?_getD] <;> omega) | (simp (disch := omega) only [w64, wu64] <;> omega) | (simp (disch := omega) [-List.getD_eq_getElem?_getD, List.getD_cons_zero, List.getD_cons_succ, kCast_self, dfl_pair, dfl_int, w64, wu64] <;> omega) | (rw [Bool.eq_iff_iff]; simp (disch := omega) [-List.getD_eq_getElem?_getD, List.getD_cons_zero, List.getD_cons_succ, kCast_self, dfl_pair, dfl_int, w64, wu64] <;> omega) | (simp_all [-List.getD_eq_getElem?_getD] <;> omega))
  · have i1 := in_no c.w 1 64 hw
    refine Tri.of Tryd.func54 rfl Tryd.call54 rfl ?_
    refine Goods.fin 2000 [.c (.of i1)] mixed Tryd.func54 ?_
    show Yes _
    repeat' apply And.intro
    (all_goals first | rfl | assumption | trivial | omega | (simp [-List.getD_eq_getElem?_getD] <;> omega) | (simp (disch := omega) only [w64, wu64] <;> omega) | (simp (disch := omega) [-List.getD_eq_getElem?_getD, List.getD_cons_zero, List.getD_cons_succ, kCast_self, dfl_pair, dfl_int, w64, wu64] <;> omega) | (rw [Bool.eq_iff_iff]; simp (disch := omega) [-List.getD_eq_getElem?_getD, List.getD_cons_zero, List.getD_cons_succ, kCast_self, dfl_pair, dfl_int, w64, wu64] <;> omega) | (simp_all [-List.getD_eq_getElem?_getD] <;> omega))
/-- A shop, its objects from number k on. -/
def shopOs (k : Nat) (c : Cnf) (n Z : Nat) (m : MemS) : List AObj :=
  [.cells [.int .i64 c.w, .int .i64 c.s, .int .i64 c.b, .int .i64 c.t, .slice (k + 1) 0 c.cl.length, .ptr (k + 2) 0 0, .ptr (k + 3) 0 0, .ptr (k + 4) 0 0], clsT c, memC (k + 5) m, hallC (k + 2) (k + 6) (k + 7) (k + 8) 0 n c, tableC (k + 2) (k + 9) Z c, memT m, clsT c, askedT c, callsT c, clsT c]
theorem open_no (own : Bool) (c : Cnf) (hc : c.cl.length ≤ 9223372036854775807) (h : ¬ c.Ok) : Tri En 22 [cnfA 0 c] [.tab own (.int .i64) c.cl] (.tuple [.nilptr, .int .i64 1]) [.tab own (.int .i64) c.cl] := by
  have h1 := check_no own c hc h
  refine Tri.of Tryd.func22 rfl Tryd.call22 rfl ?_
  refine Goods.fin 2000 [.c (.of h1), .b true] mixed Tryd.func22 ?_
  show Yes _
  repeat' apply And.intro
  (all_goals first | rfl | assumption | trivial | omega | (simp [-List.getD_eq_getElem?_getD] <;> omega) | (simp (disch := omega) only [w64, wu64] <;> omega) | (simp (disch := omega) [-List.getD_eq_getElem?_getD, List.getD_cons_zero, List.getD_cons_succ, kCast_self, dfl_pair, dfl_int, w64, wu64] <;> omega) | (rw [Bool.eq_iff_iff]; simp (disch := omega) [-List.getD_eq_getElem?_getD, List.getD_cons_zero, List.getD_cons_succ, kCast_self, dfl_pair, dfl_int, w64, wu64] <;> omega) | (simp_all [-List.getD_eq_getElem?_getD] <;> omega))
theorem hall_sz {c : Cnf} (h : c.Ok) {n : Nat} (hn : (n : Int) = c.s) : ∃ Z : Nat, hallSz c n = (Z : Int) ∧ 1 + 4 * c.w + 2 * n ≤ (Z : Int) ∧ Z ≤ 50000 := by
  have s1 := h.s1
  have w0 := h.w0
  have w1 := h.w1
  have e : hallSz c n = 1 + 4 * c.w + 2 * (c.w * fRec ((2 * n : Nat) : Int) c.w) := by unfold hallSz; rw [Int.mul_assoc]
  have hr : fRec ((2 * n : Nat) : Int) c.w = 2 * n + 3 * c.w := by unfold fRec; omega
  rw [hr] at e
  have h1 : c.w * (2 * n + 3 * c.w) ≤ 64 * 320 := Int.mul_le_mul (by omega) (by omega) (by omega) (by omega)
  have h2 : 1 * (2 * (n : Int)) ≤ c.w * (2 * n + 3 * c.w) := Int.mul_le_mul (by omega) (by omega) (by omega) (by omega)
  rw [e]
  exact ⟨(1 + 4 * c.w + 2 * (c.w * (2 * n + 3 * c.w))).toNat, by omega, by omega, by omega⟩
theorem first_w (T : Nat) (hT : 1 ≤ T) : FirstW (((⟨List.replicate T 0, 0, 0, 0, 0⟩ : MemS).acc 2 0).put 0 (refN 0 0 0 : Nat)) T ∧ (((⟨List.replicate T 0, 0, 0, 0, 0⟩ : MemS).acc 2 0).put 0 (refN 0 0 0 : Nat)).faults = 0 := by
  have hin : (⟨List.replicate T 0, 0, 0, 0, 0⟩ : MemS).inr 0 := ⟨by omega, by show (0 : Int) < ((List.replicate T 0).length : Int); rw [List.length_replicate]; omega⟩
  have hw := MemS.put_words hin 2 (refN 0 0 0 : Nat)
  have hf := MemS.put_faults hin 2 (refN 0 0 0 : Nat)
  generalize hz : refN 0 0 0 = z at *
  have e : (List.replicate T (0 : Int)).set (0 : Int).toNat (z : Int) = tabW T fun i => if i = 0 then (z : Int) else 0 := by
    rw [tabW_zero]
    exact tabW_set ..
  have hw2 := hw.trans e
  refine ⟨⟨?_, ?_, fun i h1 h2 => ?_⟩, hf⟩
  · rw [hw2, tabW_len]; omega
  · rw [hw2, tabW_get (by omega), if_pos rfl, hz]
  · rw [hw2, tabW_get (by omega), if_neg (by omega)]
set_option maxHeartbeats 4000000 in
theorem open_yes (own : Bool) (c : Cnf) (h : c.Ok) (n : Nat) (hn : (n : Int) = c.s) (Z : Nat) (hZ : hallSz c n = (Z : Int)) (hZ2 : Z ≤ 50000) (m : MemS) (hm : ((⟨List.replicate (Z + 64 * n) 0, 0, 0, 0, 0⟩ : MemS).acc 2 0).put 0 (refN 0 0 0 : Nat) = m) : Tri En 22 [cnfA 0 c] [.tab own (.int .i64) c.cl] (.tuple [.ptr 1 0 0, .int .i64 0]) (.tab own (.int .i64) c.cl :: shopOs 1 c n Z m) := by
  have l1 := h.l1
  have s1 := h.s1
  have h1 := check_ok own c h
  have h2 := conf_copy own c (by omega)
  have h3 := heart_new true c l1
  have h4 := hall_size true c h n hn
  rw [hZ] at h4
  have h5 := live_size true c h.toSmall
  rw [← hn] at h5
  have h6 := mem_new ((Z + 64 * n : Nat) : Int)
  rw [show (min (max ((Z + 64 * n : Nat) : Int) 0) 16777216).toNat = Z + 64 * n by omega] at h6
  have h7 := hall_new true c h n hn _ m hm
  have h8 := new_tri m true (Z : Nat) c l1
  clear hm
  generalize (⟨List.replicate (Z + 64 * n) 0, 0, 0, 0, 0⟩ : MemS) = m0 at *
  refine Tri.of Tryd.func22 rfl Tryd.call22 rfl ?_
  refine Goods.fin 2000 [.c (.of h1), .b false, .c (.of h2), .c (.of h3), .c (.of h4), .c (.of h5), .c (.of h6), .k 36 (.of h7), .k 40 (.of h8)] mixed Tryd.func22 ?_
  show Yes _
  repeat' apply And.intro
  (all_goals first | rfl | assumption | trivial | omega | (simp [-List.getD_eq_getElem?_getD] <;> omega) | (simp (disch := omega) only [w64, wu64] <;> omega) | (simp (disch := omega) [-List.getD_eq_getElem?_getD, List.getD_cons_zero, List.getD_cons_succ, kCast_self, dfl_pair, dfl_int, w64, wu64] <;> omega) | (rw [Bool.eq_iff_iff]; simp (disch := omega) [-List.getD_eq_getElem?_getD, List.getD_cons_zero, List.getD_cons_succ, kCast_self, dfl_pair, dfl_int, w64, wu64] <;> omega) | (simp_all [-List.getD_eq_getElem?_getD] <;> omega))
theorem FirstW.sub {m : MemS} {S S' : Nat} (h : FirstW m S) (hle : S' ≤ S) : FirstW m S' := ⟨Nat.le_trans hle h.len, h.head, fun i h1 h2 => h.rest i h1 (by omega)⟩
theorem super_tri (c : Cnf) (h : c.Ok) (n : Nat) (hn : (n : Int) = c.s) (Z : Nat) (hZ : 1 + 4 * c.w + 2 * n ≤ (Z : Int)) (m : MemS) (hF : FirstW m Z) (i : Int) (v : AV) (b : Bool) (hat : Tri En 41 [.slice 0 0 (2 * n), .int .i64 i] [.tab true (.int .u64) (List.replicate (2 * n) 0)] (.tuple [v, .bl b]) [.tab true (.int .u64) (List.replicate (2 * n) 0)]) (hv : v = supA0 ∨ v = supAn) : Tri En 25 [.ptr 0 0 0, .int .i64 i] (shopOs 0 c n Z m) (.tuple [v, .bl b]) (shopOs 0 c n Z m) := by
  have hs := hall_state c h n hn m Z (by omega) hF
  rcases hv with rfl | rfl
  all_goals
    refine Tri.of Tryd.func25 rfl Tryd.call25 rfl ?_
    refine Goods.fin 2000 [.c (.of hs), .c (.of hat)] mixed Tryd.func25 ?_
    show Yes _
    repeat' apply And.intro
    (all_goals first | rfl | assumption | trivial | omega | (simp [-List.getD_eq_getElem?_getD] <;> omega) | (simp (disch := omega) only [w64, wu64] <;> omega) | (simp (disch := omega) [-List.getD_eq_getElem?_getD, List.getD_cons_zero, List.getD_cons_succ, kCast_self, dfl_pair, dfl_int, w64, wu64] <;> omega) | (rw [Bool.eq_iff_iff]; simp (disch := omega) [-List.getD_eq_getElem?_getD, List.getD_cons_zero, List.getD_cons_succ, kCast_self, dfl_pair, dfl_int, w64, wu64] <;> omega) | (simp_all [-List.getD_eq_getElem?_getD] <;> omega))
end Go.Proofs.YtcicfbccdgkfhaaDoor.E
