/- TagSame: the law's contract. -/
import Derived.Test.YtmnpjemapdmigaaDoorL07a
namespace Go.Proofs.YtmnpjemapdmigaaDoor.E
open Go
set_option maxRecDepth 100000

def u64s (ws : List Int) : Prop := ∀ k, k < ws.length → ∃ x : Nat, ws.getD k 0 = x ∧ x < 18446744073709551616
theorem u64s_ok {ws : List Int} (h : ∀ y : Int, y ∈ ws → (Lit.int .u64 y).wf = true) : u64s ws := fun k hk => by
  have h := wf_u64 (h (ws.getD k 0) (by simp [List.getD, hk]))
  exact ⟨(ws.getD k 0).toNat, by omega, by omega⟩
/-- A step over words that lie in the memory. -/
theorem step_at (m : MemS) (a n k : Nat) (wk sl : Int) (ws : List Int) (hw : u64s m.words) (he : ∀ i, i < ws.length → m.words.getD (a + i) 0 = ws.getD i 0) (hl : a + ws.length ≤ m.words.length) (hk : k + (n + 1) = ws.length) (hs : m.words.length ≤ 100000) :
    Tri En 14 [.ptr 0 0 0] [scanC 1 3 (a + k : Nat) (n + 1 : Nat) wk sl (hits wk sl (ws.take k)), memC 2 m, memT m, tagsT (hits wk sl (ws.take k))] (.bool (decide ((n : Int) = 0))) [scanC 1 4 (a + (k + 1) : Nat) n wk sl (hits wk sl (ws.take (k + 1))), memC 2 (m.acc 1 (a + k : Nat)), memT m, .gone, tagsT (hits wk sl (ws.take (k + 1)))] := by
  obtain ⟨x, hx, hx2⟩ := hw (a + k) (by omega)
  have hin : m.inr ((a + k : Nat) : Int) := ⟨by omega, by omega⟩
  have hg : m.get ((a + k : Nat) : Int) = (x : Int) := by rw [MemS.get_in hin, Int.toNat_natCast, hx]
  have hu := hits_take_len wk sl ws k
  have := step_tri m (a + k) n wk sl (hits wk sl (ws.take k)) (by omega) (by omega) x hg hx2 (by omega)
  rw [hits_take wk sl ws (show k < ws.length by omega), ← he k (by omega), hx, ← Nat.add_assoc]
  exact this
noncomputable abbrev gSame (ws : List Int) : Frm := ⟨En, 6, Tryd.f6.ntmps, [.tab false (.int .u64) ws], .bl true, gones 1⟩
section
variable (wk sl : Nat) (ws : List Int) (hwk : wk ≤ 255) (hsl : sl ≤ 255) (hn : ws.length ≤ 60) (hu : u64s ws)
include hn
theorem same_3 : ∀ (j k : Nat) (m : MemS), k + j = ws.length → m.words = ws → Goods (gSame ws) ⟨.none, lp Tryd.f6 3,
    [(7, .ptr 1 0 0), (10, .ptr 3 0 0), (11, .ptr 5 0 0), (64, .slice 0 0 ws.length), (65, .int .i64 ws.length), (66, .int .i64 k)],
    hp [.tab false (.int .u64) ws, memC 2 m, memT m, scanC 1 4 ws.length 0 wk sl (hits wk sl ws), tagsT (hits wk sl ws), scanC 1 6 ws.length 0 wk sl (hits wk sl ws), tagsT (hits wk sl ws)]⟩
  | 0, k, m, h, hm => by
    have hr := ref_tri m ws.length 0 wk sl (hits wk sl ws) (by have := hits_len (wk : Int) (sl : Int) ws; omega)
    have he := step_end m ws.length wk sl (hits wk sl ws)
    refine Goods.fin 2000 [.b false, .k 78 (.of hr), .k 80 (.of hr), .s 81 (some true) true true, .k 84 (.of he), .k 88 (.of he)] mixed Tryd.func6 ?_
    show Yes _
    repeat' apply And.intro
    (all_goals first | rfl | assumption | trivial | omega | (simp [-List.getD_eq_getElem?_getD] <;> omega) | (simp (disch := omega) only [w64, wu64] <;> omega) | (simp (disch := omega) [-List.getD_eq_getElem?_getD, List.getD_cons_zero, List.getD_cons_succ, kCast_self, dfl_pair, dfl_int, w64, wu64] <;> omega) | (rw [Bool.eq_iff_iff]; simp (disch := omega) [-List.getD_eq_getElem?_getD, List.getD_cons_zero, List.getD_cons_succ, kCast_self, dfl_pair, dfl_int, w64, wu64] <;> omega) | (simp_all [-List.getD_eq_getElem?_getD] <;> omega))
  | j + 1, k, m, h, hm => by
    have ih := same_3 j (k + 1) m (by omega) hm
    have hg : m.get ((k : Nat) : Int) = ws.getD k 0 := by rw [MemS.get_in ⟨by omega, by rw [hm]; omega⟩, hm, Int.toNat_natCast]
    have hp := mem_peek m k
    rw [hg] at hp
    refine Goods.to 2000 [.b true, .c (.of hp), .b false, .l, .stop] mixed (ih) (by kernel_rfl) ?_
    show Yes _
    repeat' apply And.intro
    (all_goals first | rfl | assumption | trivial | omega | (simp [-List.getD_eq_getElem?_getD] <;> omega) | (simp (disch := omega) only [w64, wu64] <;> omega) | (simp (disch := omega) [-List.getD_eq_getElem?_getD, List.getD_cons_zero, List.getD_cons_succ, kCast_self, dfl_pair, dfl_int, w64, wu64] <;> omega) | (rw [Bool.eq_iff_iff]; simp (disch := omega) [-List.getD_eq_getElem?_getD, List.getD_cons_zero, List.getD_cons_succ, kCast_self, dfl_pair, dfl_int, w64, wu64] <;> omega) | (simp_all [-List.getD_eq_getElem?_getD] <;> omega))
include hu
theorem same_2 : ∀ (j k : Nat) (m : MemS), k + j = ws.length → m.words = ws → Goods (gSame ws) ⟨.none, lp Tryd.f6 2,
    [(0, .slice 0 0 ws.length), (7, .ptr 1 0 0), (10, .ptr 3 0 0), (11, .ptr 5 0 0), (57, .slice 0 0 ws.length), (58, .int .i64 ws.length), (59, .int .i64 k)],
    hp [.tab false (.int .u64) ws, memC 2 m, memT m, scanC 1 4 ws.length 0 wk sl (hits wk sl ws), tagsT (hits wk sl ws), scanC 1 6 k j wk sl (hits wk sl (ws.take k)), tagsT (hits wk sl (ws.take k))]⟩
  | 0, k, m, h, hm => by
    obtain rfl : k = ws.length := by omega
    rw [List.take_length]
    have ih := same_3 wk sl ws hn ws.length 0 m (by omega) hm
    refine Goods.to 2000 [.b false, .l, .stop] mixed (ih) (by kernel_rfl) ?_
    show Yes _
    repeat' apply And.intro
    (all_goals first | rfl | assumption | trivial | omega | (simp [-List.getD_eq_getElem?_getD] <;> omega) | (simp (disch := omega) only [w64, wu64] <;> omega) | (simp (disch := omega) [-List.getD_eq_getElem?_getD, List.getD_cons_zero, List.getD_cons_succ, kCast_self, dfl_pair, dfl_int, w64, wu64] <;> omega) | (rw [Bool.eq_iff_iff]; simp (disch := omega) [-List.getD_eq_getElem?_getD, List.getD_cons_zero, List.getD_cons_succ, kCast_self, dfl_pair, dfl_int, w64, wu64] <;> omega) | (simp_all [-List.getD_eq_getElem?_getD] <;> omega))
  | j + 1, k, m, h, hm => by
    have ih := same_2 j (k + 1) (m.acc 1 ((0 + k : Nat) : Int)) (by omega) hm
    have hs := step_at m 0 j k wk sl ws (by rw [hm]; exact hu) (fun i _ => by rw [hm, Nat.zero_add]) (by rw [hm]; omega) (by omega) (by rw [hm]; omega)
    rw [Nat.zero_add] at hs ih
    refine Goods.to 2000 [.b true, .c (.of hs), .l, .stop] mixed (ih) (by kernel_rfl) ?_
    show Yes _
    repeat' apply And.intro
    (all_goals first | rfl | assumption | trivial | omega | (simp [-List.getD_eq_getElem?_getD] <;> omega) | (simp (disch := omega) only [w64, wu64] <;> omega) | (simp (disch := omega) [-List.getD_eq_getElem?_getD, List.getD_cons_zero, List.getD_cons_succ, kCast_self, dfl_pair, dfl_int, w64, wu64] <;> omega) | (rw [Bool.eq_iff_iff]; simp (disch := omega) [-List.getD_eq_getElem?_getD, List.getD_cons_zero, List.getD_cons_succ, kCast_self, dfl_pair, dfl_int, w64, wu64] <;> omega) | (simp_all [-List.getD_eq_getElem?_getD] <;> omega))
theorem same_1 : ∀ (j k : Nat) (m : MemS), k + j = ws.length → m.words = ws → Goods (gSame ws) ⟨.none, lp Tryd.f6 1,
    [(0, .slice 0 0 ws.length), (7, .ptr 1 0 0), (10, .ptr 3 0 0), (11, .ptr 5 0 0), (50, .slice 0 0 ws.length), (51, .int .i64 ws.length), (52, .int .i64 k)],
    hp [.tab false (.int .u64) ws, memC 2 m, memT m, scanC 1 4 k j wk sl (hits wk sl (ws.take k)), tagsT (hits wk sl (ws.take k)), scanC 1 6 0 ws.length wk sl [], tagsT []]⟩
  | 0, k, m, h, hm => by
    obtain rfl : k = ws.length := by omega
    rw [List.take_length]
    have ih := same_2 wk sl ws hn hu ws.length 0 m (by omega) hm
    refine Goods.to 2000 [.b false, .l, .stop] mixed (ih) (by kernel_rfl) ?_
    show Yes _
    repeat' apply And.intro
    (all_goals first | rfl | assumption | trivial | omega | (simp [-List.getD_eq_getElem?_getD] <;> omega) | (simp (disch := omega) only [w64, wu64] <;> omega) | (simp (disch := omega) [-List.getD_eq_getElem?_getD, List.getD_cons_zero, List.getD_cons_succ, kCast_self, dfl_pair, dfl_int, w64, wu64] <;> omega) | (rw [Bool.eq_iff_iff]; simp (disch := omega) [-List.getD_eq_getElem?_getD, List.getD_cons_zero, List.getD_cons_succ, kCast_self, dfl_pair, dfl_int, w64, wu64] <;> omega) | (simp_all [-List.getD_eq_getElem?_getD] <;> omega))
  | j + 1, k, m, h, hm => by
    have ih := same_1 j (k + 1) (m.acc 1 ((0 + k : Nat) : Int)) (by omega) hm
    have hs := step_at m 0 j k wk sl ws (by rw [hm]; exact hu) (fun i _ => by rw [hm, Nat.zero_add]) (by rw [hm]; omega) (by omega) (by rw [hm]; omega)
    rw [Nat.zero_add] at hs ih
    refine Goods.to 2000 [.b true, .c (.of hs), .l, .stop] mixed (ih) (by kernel_rfl) ?_
    show Yes _
    repeat' apply And.intro
    (all_goals first | rfl | assumption | trivial | omega | (simp [-List.getD_eq_getElem?_getD] <;> omega) | (simp (disch := omega) only [w64, wu64] <;> omega) | (simp (disch := omega) [-List.getD_eq_getElem?_getD, List.getD_cons_zero, List.getD_cons_succ, kCast_self, dfl_pair, dfl_int, w64, wu64] <;> omega) | (rw [Bool.eq_iff_iff]; simp (disch := omega) [-List.getD_eq_getElem?_getD, List.getD_cons_zero, List.getD_cons_succ, kCast_self, dfl_pair, dfl_int, w64, wu64] <;> omega) | (simp_all [-List.getD_eq_getElem?_getD] <;> omega))
include hwk hsl
theorem same_0 : ∀ (j k : Nat) (m : MemS), k + j = ws.length → m.words = tabW ws.length (fun i => if i < k then ws.getD i 0 else 0) → Goods (gSame ws) ⟨.none, lp Tryd.f6 0,
    [(0, .slice 0 0 ws.length), (1, .int .u8 wk), (2, .int .u8 sl), (7, .ptr 1 0 0), (22, .slice 0 0 ws.length), (23, .int .i64 ws.length), (24, .int .i64 k)],
    hp [.tab false (.int .u64) ws, memC 2 m, memT m]⟩
  | 0, k, m, h, hm => by
    obtain rfl : k = ws.length := by omega
    have hm' : m.words = ws := by rw [hm]; conv => rhs; rw [tabW_self ws]
                                  exact tabW_congr fun i hi => if_pos hi
    have ih := same_1 wk sl ws hn hu ws.length 0 m (by omega) hm'
    have hc := scan_new m 0 ws.length wk sl
    refine Goods.to 2000 [.b false, .k 41 (.of hc), .k 49 (.of hc), .l, .stop] mixed (ih) (by kernel_rfl) ?_
    show Yes _
    repeat' apply And.intro
    (all_goals first | rfl | assumption | trivial | omega | (simp [-List.getD_eq_getElem?_getD] <;> omega) | (simp (disch := omega) only [w64, wu64] <;> omega) | (simp (disch := omega) [-List.getD_eq_getElem?_getD, List.getD_cons_zero, List.getD_cons_succ, kCast_self, dfl_pair, dfl_int, w64, wu64] <;> omega) | (rw [Bool.eq_iff_iff]; simp (disch := omega) [-List.getD_eq_getElem?_getD, List.getD_cons_zero, List.getD_cons_succ, kCast_self, dfl_pair, dfl_int, w64, wu64] <;> omega) | (simp_all [-List.getD_eq_getElem?_getD] <;> omega))
  | j + 1, k, m, h, hm => by
    have hin : m.inr ((k : Nat) : Int) := ⟨by omega, by rw [hm, tabW_len]; omega⟩
    have ih := same_0 j (k + 1) ((m.acc 2 (k : Nat)).put (k : Nat) (ws.getD k 0)) (by omega) (by
      rw [MemS.put_words hin, hm, Int.toNat_natCast]
      refine tabW_set' fun i hi => ?_
      by_cases h1 : i = k
      · subst h1; rw [if_pos rfl, if_pos (by omega)]
      · rw [if_neg h1]; by_cases h2 : i < k
        · rw [if_pos h2, if_pos (by omega)]
        · rw [if_neg h2, if_neg (by omega)])
    refine Goods.to 2000 [.b true, .c (.of (mem_store m k (ws.getD k 0))), .l, .stop] mixed (ih) (by kernel_rfl) ?_
    show Yes _
    repeat' apply And.intro
    (all_goals first | rfl | assumption | trivial | omega | (simp [-List.getD_eq_getElem?_getD] <;> omega) | (simp (disch := omega) only [w64, wu64] <;> omega) | (simp (disch := omega) [-List.getD_eq_getElem?_getD, List.getD_cons_zero, List.getD_cons_succ, kCast_self, dfl_pair, dfl_int, w64, wu64] <;> omega) | (rw [Bool.eq_iff_iff]; simp (disch := omega) [-List.getD_eq_getElem?_getD, List.getD_cons_zero, List.getD_cons_succ, kCast_self, dfl_pair, dfl_int, w64, wu64] <;> omega) | (simp_all [-List.getD_eq_getElem?_getD] <;> omega))
end
theorem TagSame_tri (wk sl : Nat) (ws : List Int) (hwk : wk ≤ 255) (hsl : sl ≤ 255) (hu : u64s ws) (_ : ws.length ≤ 9223372036854775807) : Tri En 6 [.slice 0 0 ws.length, .int .u8 wk, .int .u8 sl] [.tab false (.int .u64) ws] (.bl true) (gones 1) := by
  refine Tri.of Tryd.func6 rfl Tryd.call6 rfl ?_
  by_cases hn : ws.length ≤ 60
  · have hm := mem_new ws.length
    rw [show (min (max (ws.length : Int) 0) 16777216).toNat = ws.length by omega] at hm
    have ih := same_0 wk sl ws hwk hsl hn hu ws.length 0 ⟨List.replicate ws.length 0, 0, 0, 0, 0⟩ (by omega) (by rw [tabW_zero]; exact tabW_congr fun i _ => (if_neg (by omega)).symm)
    refine Goods.to 2000 [.c (.of speaks_tri), .b false, .c (.of hm), .l, .stop] mixed (ih) (by kernel_rfl) ?_
    show Yes _
    repeat' apply And.intro
    (all_goals first | rfl | assumption | trivial | omega | (simp [-List.getD_eq_getElem?_getD] <;> omega) | (simp (disch := omega) only [w64, wu64] <;> omega) | (simp (disch := omega) [-List.getD_eq_getElem?_getD, List.getD_cons_zero, List.getD_cons_succ, kCast_self, dfl_pair, dfl_int, w64, wu64] <;> omega) | (rw [Bool.eq_iff_iff]; simp (disch := omega) [-List.getD_eq_getElem?_getD, List.getD_cons_zero, List.getD_cons_succ, kCast_self, dfl_pair, dfl_int, w64, wu64] <;> omega) | (simp_all [-List.getD_eq_getElem?_getD] <;> omega))
  · refine Goods.fin 2000 [.c (.of speaks_tri), .b true] mixed Tryd.func6 ?_
    show Yes _
    repeat' apply And.intro
    (all_goals first | rfl | assumption | trivial | omega | (simp [-List.getD_eq_getElem?_getD] <;> omega) | (simp (disch := omega) only [w64, wu64] <;> omega) | (simp (disch := omega) [-List.getD_eq_getElem?_getD, List.getD_cons_zero, List.getD_cons_succ, kCast_self, dfl_pair, dfl_int, w64, wu64] <;> omega) | (rw [Bool.eq_iff_iff]; simp (disch := omega) [-List.getD_eq_getElem?_getD, List.getD_cons_zero, List.getD_cons_succ, kCast_self, dfl_pair, dfl_int, w64, wu64] <;> omega) | (simp_all [-List.getD_eq_getElem?_getD] <;> omega))
theorem TagSame_law (d : dats ([(false, (.slice (.int .u64))), (false, (.int .u8)), (false, (.int .u8))] : List (Bool × Sh))) (hd : datsOk ([(false, (.slice (.int .u64))), (false, (.int .u8)), (false, (.int .u8))] : List (Bool × Sh)) d) : Tri En 6 (argsOf ([(false, (.slice (.int .u64))), (false, (.int .u8)), (false, (.int .u8))] : List (Bool × Sh)) d 0) (objsOf ([(false, (.slice (.int .u64))), (false, (.int .u8)), (false, (.int .u8))] : List (Bool × Sh)) d) (.bl true) (gones (cnts ([(false, (.slice (.int .u64))), (false, (.int .u8)), (false, (.int .u8))] : List (Bool × Sh)))) := by
  obtain ⟨ws, wk, sl, _⟩ := d
  obtain ⟨⟨h0, h1⟩, h2, h3, _⟩ := hd
  obtain ⟨wk, rfl, hwk⟩ := wf_u8 h2
  obtain ⟨sl, rfl, hsl⟩ := wf_u8 h3
  exact TagSame_tri wk sl ws hwk hsl (u64s_ok h1) (maxLen_le h0)
end Go.Proofs.YtmnpjemapdmigaaDoor.E

