/- SlotLays: the law's contract. -/
import Derived.Test.YtfclnofmhnapnaaPslot
namespace Go.Proofs.Ytfclnofmhnapnaa.E
open Go
set_option maxRecDepth 100000

theorem speaks_tri : Tri En 7 [] [] (.bl true) [] := by
  refine Tri.of Try.func7 rfl Try.call7 rfl ?_
  have h : FrOk 10 1 2 := ⟨by omega, by omega, by omega, by omega, by omega, by omega⟩
  have h1 := fr_record h
  have h2 := fr_size h
  have h3 := fr_at h (i := 0) (s := 1) (by omega) (by omega) (by omega) (by omega)
  have h4 := fr_held h (i := 1) (by omega) (by omega)
  have h5 := fr_answer h (i := 1) (by omega) (by omega)
  refine Goods.fin 2000 [.c (.of h1), .s 5 (some true) true true, .c (.of h2), .s 9 (some true) true true, .c (.of h3), .s 14 (some true) true true, .c (.of h4), .s 19 (some true) true true, .c (.of h5)] mixed Try.func7 ?_
  show Yes _
  repeat' apply And.intro
  (all_goals first | rfl | assumption | trivial | omega | (simp [-List.getD_eq_getElem?_getD] <;> omega) | (simp (disch := omega) only [w64, wu64] <;> omega) | (simp (disch := omega) [-List.getD_eq_getElem?_getD, List.getD_cons_zero, List.getD_cons_succ, kCast_self, dfl_pair, dfl_int, w64, wu64] <;> omega) | (rw [Bool.eq_iff_iff]; simp (disch := omega) [-List.getD_eq_getElem?_getD, List.getD_cons_zero, List.getD_cons_succ, kCast_self, dfl_pair, dfl_int, w64, wu64] <;> omega) | (simp_all [-List.getD_eq_getElem?_getD] <;> omega))

/-- The words of the memory, k of ws laid from place a on. -/
def laidF (a : Nat) (ws : List Int) (k i : Nat) : Int := if a ≤ i ∧ i < a + k then ws.getD (i - a) 0 else 0
theorem laidF_step (a : Nat) (ws : List Int) (N k : Nat) : (tabW N (laidF a ws k)).set (a + k) (ws.getD k 0) = tabW N (laidF a ws (k + 1)) := by
  refine tabW_set' fun i _ => ?_
  unfold laidF
  split
  · rename_i h; subst h; rw [if_pos (by omega), Nat.add_sub_cancel_left]
  · split
    · rw [if_pos (by omega)]
    · rw [if_neg (by omega)]
noncomputable abbrev gLays (ws : List Int) : Frm := ⟨En, 4, Try.f4.ntmps, [.tab false (.int .u64) ws], .bl true, gones 1⟩
/-- The third loop: all words are looked at. -/
theorem lays_2 (a room : Nat) (ws : List Int) (ha : a ≤ 255) (hr : room ≤ 255) (hn : ws.length ≤ 100) : ∀ j k, k + j = a + ws.length + room → Goods (gLays ws) ⟨.none, lp Try.f4 2,
    [(0, .int .u8 room), (1, .int .u8 a), (2, .slice 0 0 ws.length), (92, .slice 1 0 (a + ws.length + room)), (93, .int .i64 (a + ws.length + room : Nat)), (94, .int .i64 k)], hp [.tab false (.int .u64) ws, .tab true (.int .u64) (tabW (a + ws.length + room) (laidF a ws ws.length))]⟩
  | 0, k, h => by
    refine Goods.fin 2000 [.b false] mixed Try.func4 ?_
    show Yes _
    repeat' apply And.intro
    (all_goals first | rfl | assumption | trivial | omega | (simp [-List.getD_eq_getElem?_getD] <;> omega) | (simp (disch := omega) only [w64, wu64] <;> omega) | (simp (disch := omega) [-List.getD_eq_getElem?_getD, List.getD_cons_zero, List.getD_cons_succ, kCast_self, dfl_pair, dfl_int, w64, wu64] <;> omega) | (rw [Bool.eq_iff_iff]; simp (disch := omega) [-List.getD_eq_getElem?_getD, List.getD_cons_zero, List.getD_cons_succ, kCast_self, dfl_pair, dfl_int, w64, wu64] <;> omega) | (simp_all [-List.getD_eq_getElem?_getD] <;> omega))
  | j + 1, k, h => by
    have ih := lays_2 a room ws ha hr hn j (k + 1) (by omega)
    have hg : (tabW (a + ws.length + room) (laidF a ws ws.length)).getD k 0 = if a ≤ k ∧ k < a + ws.length then ws.getD (k - a) 0 else 0 := tabW_get (by omega)
    by_cases h1 : k < a
    · rw [if_neg (by omega)] at hg
      refine Goods.to 2000 [.b true, .s 104 (some false) true true, .b false, .l, .stop] mixed (ih) (by kernel_rfl) ?_
      show Yes _
      repeat' apply And.intro
      (all_goals first | rfl | assumption | trivial | omega | (simp [-List.getD_eq_getElem?_getD, hg] <;> omega) | (simp (disch := omega) only [w64, wu64] <;> omega) | (simp (disch := omega) [-List.getD_eq_getElem?_getD, List.getD_cons_zero, List.getD_cons_succ, kCast_self, dfl_pair, dfl_int, w64, wu64, hg] <;> omega) | (rw [Bool.eq_iff_iff]; simp (disch := omega) [-List.getD_eq_getElem?_getD, List.getD_cons_zero, List.getD_cons_succ, kCast_self, dfl_pair, dfl_int, w64, wu64, hg] <;> omega) | (simp_all [-List.getD_eq_getElem?_getD] <;> omega))
    · by_cases h2 : k < a + ws.length
      · rw [if_pos (by omega)] at hg
        have e : ((k : Int) - a).toNat = k - a := by omega
        refine Goods.to 2000 [.b true, .s 104 (some true) true true, .b true, .b false, .l, .stop] mixed (ih) (by kernel_rfl) ?_
        show Yes _
        repeat' apply And.intro
        (all_goals first | rfl | assumption | trivial | omega | (simp [-List.getD_eq_getElem?_getD, hg, e] <;> omega) | (simp (disch := omega) only [w64, wu64] <;> omega) | (simp (disch := omega) [-List.getD_eq_getElem?_getD, List.getD_cons_zero, List.getD_cons_succ, kCast_self, dfl_pair, dfl_int, w64, wu64, hg, e] <;> omega) | (rw [Bool.eq_iff_iff]; simp (disch := omega) [-List.getD_eq_getElem?_getD, List.getD_cons_zero, List.getD_cons_succ, kCast_self, dfl_pair, dfl_int, w64, wu64, hg, e] <;> omega) | (simp_all [-List.getD_eq_getElem?_getD] <;> omega))
      · rw [if_neg (by omega)] at hg
        refine Goods.to 2000 [.b true, .s 104 (some true) true true, .b false, .b false, .l, .stop] mixed (ih) (by kernel_rfl) ?_
        show Yes _
        repeat' apply And.intro
        (all_goals first | rfl | assumption | trivial | omega | (simp [-List.getD_eq_getElem?_getD, hg] <;> omega) | (simp (disch := omega) only [w64, wu64] <;> omega) | (simp (disch := omega) [-List.getD_eq_getElem?_getD, List.getD_cons_zero, List.getD_cons_succ, kCast_self, dfl_pair, dfl_int, w64, wu64, hg] <;> omega) | (rw [Bool.eq_iff_iff]; simp (disch := omega) [-List.getD_eq_getElem?_getD, List.getD_cons_zero, List.getD_cons_succ, kCast_self, dfl_pair, dfl_int, w64, wu64, hg] <;> omega) | (simp_all [-List.getD_eq_getElem?_getD] <;> omega))
/-- The second loop: the words are laid. -/
theorem lays_1 (a room : Nat) (ws : List Int) (ha : a ≤ 255) (hr : room ≤ 255) (hn : ws.length ≤ 100) : ∀ (j k : Nat) (m : MemS), k + j = ws.length → m.words = tabW (a + ws.length + room) (laidF a ws k) → m.ops = k → m.faults = 0 → Goods (gLays ws) ⟨.none, lp Try.f4 1,
    [(0, .int .u8 room), (1, .int .u8 a), (2, .slice 0 0 ws.length), (7, .ptr 1 0 0), (9, .ptr 3 0 0), (53, .int .i64 ws.length), (54, .int .i64 k)],
    hp [.tab false (.int .u64) ws, memC 2 m, memT m, layC 1 4 (a + k : Nat) k j, .tab true (.int .u64) ws]⟩
  | 0, k, m, h, h1, h2, h3 => by
    have ih := lays_2 a room ws ha hr hn (a + ws.length + room) 0 (by omega)
    obtain rfl : k = ws.length := by omega
    rw [← h1] at ih
    have hl : m.words.length = a + ws.length + room := by rw [h1]; simp
    refine Goods.to 2000 [.b false, .c (.of (mem_ops m)), .c (.of (lay_over m (a + ws.length : Nat) ws ws.length)), .c (.of (mem_ops m)), .s 84 (some false) true true, .c (.of (mem_faults m)), .b false, .c (.of (mem_words m (by omega))), .l, .stop] mixed (ih) (by kernel_rfl) ?_
    show Yes _
    repeat' apply And.intro
    (all_goals first | rfl | assumption | trivial | omega | (simp [-List.getD_eq_getElem?_getD] <;> omega) | (simp (disch := omega) only [w64, wu64] <;> omega) | (simp (disch := omega) [-List.getD_eq_getElem?_getD, List.getD_cons_zero, List.getD_cons_succ, kCast_self, dfl_pair, dfl_int, w64, wu64] <;> omega) | (rw [Bool.eq_iff_iff]; simp (disch := omega) [-List.getD_eq_getElem?_getD, List.getD_cons_zero, List.getD_cons_succ, kCast_self, dfl_pair, dfl_int, w64, wu64] <;> omega) | (simp_all [-List.getD_eq_getElem?_getD] <;> omega))
  | j + 1, k, m, h, h1, h2, h3 => by
    have hl : m.words.length = a + ws.length + room := by rw [h1]; simp
    have hin : m.inr (a + k : Nat) := ⟨by omega, by omega⟩
    have ih := lays_1 a room ws ha hr hn j (k + 1) ((m.acc 2 (a + k : Nat)).put (a + k : Nat) (ws.getD k 0)) (by omega) (by rw [MemS.put_words hin, h1]; exact laidF_step ..) (by rw [MemS.put_ops, h2]; exact inc_nat (by omega)) (by rw [MemS.put_faults hin, h3])
    have hs := lay_step m (a + k : Nat) ws k j (by omega)
    have hi : inc (a + k : Nat) = (a + (k + 1) : Nat) := inc_nat (by omega)
    have e : decide (j = 0) = ((k : Int) == IntKind.i64.wrap (ws.length - 1)) := by rw [w64 (by omega) (by omega), Bool.eq_iff_iff]; simp; omega
    refine Goods.to 2000 [.b true, .c (.of (mem_ops m)), .c (.of hs), .s 66 (some false) true true, .c (.of (mem_ops ((m.acc 2 (a + k : Nat)).put (a + k : Nat) (ws.getD k 0)))), .b false, .l, .stop] mixed (ih) (by kernel_rfl) ?_
    show Yes _
    repeat' apply And.intro
    (all_goals first | rfl | assumption | trivial | omega | (simp [-List.getD_eq_getElem?_getD, MemS.put_ops, h2, inc, e] <;> omega) | (simp (disch := omega) only [w64, wu64] <;> omega) | (simp (disch := omega) [-List.getD_eq_getElem?_getD, List.getD_cons_zero, List.getD_cons_succ, kCast_self, dfl_pair, dfl_int, w64, wu64, MemS.put_ops, h2, inc, e] <;> omega) | (rw [Bool.eq_iff_iff]; simp (disch := omega) [-List.getD_eq_getElem?_getD, List.getD_cons_zero, List.getD_cons_succ, kCast_self, dfl_pair, dfl_int, w64, wu64, MemS.put_ops, h2, inc, e] <;> omega) | (simp_all [-List.getD_eq_getElem?_getD] <;> omega))
/-- The first loop: the words that were handed in are turned. -/
theorem lays_0 (a room : Nat) (ws : List Int) (ha : a ≤ 255) (hr : room ≤ 255) (hn : ws.length ≤ 100) (m : MemS) (h1 : m.words = tabW (a + ws.length + room) (laidF a ws 0)) (h2 : m.ops = 0) (h3 : m.faults = 0) : ∀ (j k : Nat) (ys : List Int), k + j = ws.length → ys.length = ws.length → Goods (gLays ws) ⟨.none, lp Try.f4 0,
    [(0, .int .u8 room), (1, .int .u8 a), (2, .slice 0 0 ws.length), (7, .ptr 1 0 0), (8, .slice 5 0 ws.length), (9, .ptr 3 0 0), (41, .int .i64 ws.length), (42, .int .i64 k)],
    hp [.tab false (.int .u64) ws, memC 2 m, memT m, layC 1 4 a 0 ws.length, .tab true (.int .u64) ws, .tab true (.int .u64) ys]⟩
  | 0, k, ys, h, hy => by
    have ih := lays_1 a room ws ha hr hn ws.length 0 m (by omega) h1 h2 h3
    refine Goods.to 2000 [.b false, .l, .stop] mixed (ih) (by kernel_rfl) ?_
    show Yes _
    repeat' apply And.intro
    (all_goals first | rfl | assumption | trivial | omega | (simp [-List.getD_eq_getElem?_getD] <;> omega) | (simp (disch := omega) only [w64, wu64] <;> omega) | (simp (disch := omega) [-List.getD_eq_getElem?_getD, List.getD_cons_zero, List.getD_cons_succ, kCast_self, dfl_pair, dfl_int, w64, wu64] <;> omega) | (rw [Bool.eq_iff_iff]; simp (disch := omega) [-List.getD_eq_getElem?_getD, List.getD_cons_zero, List.getD_cons_succ, kCast_self, dfl_pair, dfl_int, w64, wu64] <;> omega) | (simp_all [-List.getD_eq_getElem?_getD] <;> omega))
  | j + 1, k, ys, h, hy => by
    have ih := lays_0 a room ws ha hr hn m h1 h2 h3 j (k + 1) (ys.set k (IntKind.u64.wrap (ys.getD k 0 + 1))) (by omega) (by simpa using hy)
    refine Goods.to 2000 [.b true, .l, .stop] mixed (ih) (by kernel_rfl) ?_
    show Yes _
    repeat' apply And.intro
    (all_goals first | rfl | assumption | trivial | omega | (simp [-List.getD_eq_getElem?_getD] <;> omega) | (simp (disch := omega) only [w64, wu64] <;> omega) | (simp (disch := omega) [-List.getD_eq_getElem?_getD, List.getD_cons_zero, List.getD_cons_succ, kCast_self, dfl_pair, dfl_int, w64, wu64] <;> omega) | (rw [Bool.eq_iff_iff]; simp (disch := omega) [-List.getD_eq_getElem?_getD, List.getD_cons_zero, List.getD_cons_succ, kCast_self, dfl_pair, dfl_int, w64, wu64] <;> omega) | (simp_all [-List.getD_eq_getElem?_getD] <;> omega))
theorem SlotLays_tri (a room : Nat) (ws : List Int) (ha : a ≤ 255) (hr : room ≤ 255) (_hw : ws.length ≤ 9223372036854775807) : Tri En 4 [.int .u8 room, .int .u8 a, .slice 0 0 ws.length] [.tab false (.int .u64) ws] (.bl true) (gones 1) := by
  refine Tri.of Try.func4 rfl Try.call4 rfl ?_
  by_cases hn : ws.length ≤ 100
  · have hm := mem_new (a + ws.length + room : Nat)
    have e : (min (max ((a + ws.length + room : Nat) : Int) 0) 16777216).toNat = a + ws.length + room := by omega
    rw [e] at hm
    have ih := lays_0 a room ws ha hr hn ⟨List.replicate (a + ws.length + room) 0, 0, 0, 0, 0⟩ (by rw [tabW_zero]; exact tabW_congr fun i _ => (if_neg (by omega)).symm) rfl rfl ws.length 0 ws (by omega) rfl
    have hlay := slot_lay ⟨List.replicate (a + ws.length + room) 0, 0, 0, 0, 0⟩ a true ws (by omega)
    refine Goods.to 2000 [.c (.of speaks_tri), .b false, .c (.of hm), .c (.of hlay), .l, .stop] mixed (ih) (by kernel_rfl) ?_
    show Yes _
    repeat' apply And.intro
    (all_goals first | rfl | assumption | trivial | omega | (simp [-List.getD_eq_getElem?_getD] <;> omega) | (simp (disch := omega) only [w64, wu64] <;> omega) | (simp (disch := omega) [-List.getD_eq_getElem?_getD, List.getD_cons_zero, List.getD_cons_succ, kCast_self, dfl_pair, dfl_int, w64, wu64] <;> omega) | (rw [Bool.eq_iff_iff]; simp (disch := omega) [-List.getD_eq_getElem?_getD, List.getD_cons_zero, List.getD_cons_succ, kCast_self, dfl_pair, dfl_int, w64, wu64] <;> omega) | (simp_all [-List.getD_eq_getElem?_getD] <;> omega))
  · refine Goods.fin 2000 [.c (.of speaks_tri), .b true] mixed Try.func4 ?_
    show Yes _
    repeat' apply And.intro
    (all_goals first | rfl | assumption | trivial | omega | (simp [-List.getD_eq_getElem?_getD] <;> omega) | (simp (disch := omega) only [w64, wu64] <;> omega) | (simp (disch := omega) [-List.getD_eq_getElem?_getD, List.getD_cons_zero, List.getD_cons_succ, kCast_self, dfl_pair, dfl_int, w64, wu64] <;> omega) | (rw [Bool.eq_iff_iff]; simp (disch := omega) [-List.getD_eq_getElem?_getD, List.getD_cons_zero, List.getD_cons_succ, kCast_self, dfl_pair, dfl_int, w64, wu64] <;> omega) | (simp_all [-List.getD_eq_getElem?_getD] <;> omega))
theorem SlotLays_law (d : dats ([(false, (.int .u8)), (false, (.int .u8)), (false, (.slice (.int .u64)))] : List (Bool × Sh))) (hd : datsOk ([(false, (.int .u8)), (false, (.int .u8)), (false, (.slice (.int .u64)))] : List (Bool × Sh)) d) : Tri En 4 (argsOf ([(false, (.int .u8)), (false, (.int .u8)), (false, (.slice (.int .u64)))] : List (Bool × Sh)) d 0) (objsOf ([(false, (.int .u8)), (false, (.int .u8)), (false, (.slice (.int .u64)))] : List (Bool × Sh)) d) (.bl true) (gones (cnts ([(false, (.int .u8)), (false, (.int .u8)), (false, (.slice (.int .u64)))] : List (Bool × Sh)))) := by
  obtain ⟨room, a, ws, _⟩ := d
  obtain ⟨h0, h1, ⟨h2, _⟩, _⟩ := hd
  obtain ⟨room, rfl, hr⟩ := wf_u8 h0
  obtain ⟨a, rfl, ha⟩ := wf_u8 h1
  exact SlotLays_tri a room ws ha hr (maxLen_le h2)
end Go.Proofs.Ytfclnofmhnapnaa.E
