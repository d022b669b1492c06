/- SlotCopies: the law's contract. -/
import Derived.Test.YtfclnofmhnapnaaL08b
namespace Go.Proofs.Ytfclnofmhnapnaa.E
open Go
set_option maxRecDepth 100000

noncomputable abbrev gCop (ws cs : List Int) : Frm := ⟨En, 5, Try.f5.ntmps, [.tab false (.int .u64) ws, .tab false (.int .u64) cs], .bl true, gones 2⟩
/-- The last loop: what was copied is what was wanted; the copy is turned as it is looked at. -/
theorem copies_2 (ws cs : List Int) (a n : Nat) (ha : a ≤ 255) (want : List Int) (hn : want.length = n) (hn2 : n ≤ 255) (m : MemS) (hm : m.words.length ≤ 200) (ops : Int) (ho : m.ops = ops) (hf : m.faults = 0) : ∀ (j k : Nat) (got : List Int), k + j = n → got.length = n → (∀ i, k ≤ i → got.getD i 0 = want.getD i 0) → Goods (gCop ws cs) ⟨.none, lp Try.f5 2,
    [(7, .ptr 2 0 0), (11, .int .i64 n), (12, .ptr 4 0 0), (13, .slice 5 0 n), (16, .int .i64 ops), (17, .slice 6 0 n), (118, .slice 5 0 n), (119, .int .i64 n), (120, .int .i64 k)],
    hp [.gone, .gone, memC 3 m, memT m, cpC 2 7 a n n, .tab true (.int .u64) want, .tab true (.int .u64) got, .tab true (.int .u64) want]⟩
  | 0, k, got, h, hg, he => by
    obtain rfl : k = n := by omega
    have hw := cp_words m a k want (by omega)
    rw [hn] at hw
    have hov := cp_over m a k want (by omega)
    rw [hn] at hov
    by_cases h0 : k = 0
    · subst h0
      refine Goods.fin 2000 [.b false, .c (.of hw), .s 149 (some true) true true, .c (.of hov), .s 153 (some true) true true, .c (.of (mem_ops m)), .s 158 (some true) true true, .c (.of (mem_faults m)), .s 163 (some true) true true, .s 167 (some true) true true] mixed Try.func5 ?_
      show Yes _
      repeat' apply And.intro
      (all_goals first | rfl | assumption | trivial | omega | (simp [-List.getD_eq_getElem?_getD] <;> omega) | (simp (disch := omega) only [w64, wu64] <;> omega) | (simp (disch := omega) [-List.getD_eq_getElem?_getD, List.getD_cons_zero, List.getD_cons_succ, kCast_self, dfl_pair, dfl_int, w64, wu64] <;> omega) | (rw [Bool.eq_iff_iff]; simp (disch := omega) [-List.getD_eq_getElem?_getD, List.getD_cons_zero, List.getD_cons_succ, kCast_self, dfl_pair, dfl_int, w64, wu64] <;> omega) | (simp_all [-List.getD_eq_getElem?_getD] <;> omega))
    · refine Goods.fin 2000 [.b false, .c (.of hw), .s 149 (some true) true true, .c (.of hov), .s 153 (some true) true true, .c (.of (mem_ops m)), .s 158 (some true) true true, .c (.of (mem_faults m)), .s 163 (some true) true true, .s 167 (some false) true true] mixed Try.func5 ?_
      show Yes _
      repeat' apply And.intro
      (all_goals first | rfl | assumption | trivial | omega | (simp [-List.getD_eq_getElem?_getD] <;> omega) | (simp (disch := omega) only [w64, wu64] <;> omega) | (simp (disch := omega) [-List.getD_eq_getElem?_getD, List.getD_cons_zero, List.getD_cons_succ, kCast_self, dfl_pair, dfl_int, w64, wu64] <;> omega) | (rw [Bool.eq_iff_iff]; simp (disch := omega) [-List.getD_eq_getElem?_getD, List.getD_cons_zero, List.getD_cons_succ, kCast_self, dfl_pair, dfl_int, w64, wu64] <;> omega) | (simp_all [-List.getD_eq_getElem?_getD] <;> omega))
  | j + 1, k, got, h, hg, he => by
    have hk := he k (Nat.le_refl _)
    have ih := copies_2 ws cs a n ha want hn hn2 m hm ops ho hf j (k + 1) (got.set k (IntKind.u64.wrap (got.getD k 0 + 1))) (by omega) (by simpa using hg) (fun i hi => by
      rw [← he i (by omega)]
      simp only [List.getD, List.getElem?_set]
      rw [if_neg (by omega)])
    refine Goods.to 2000 [.b true, .s 128 (some false) true true, .b false, .l, .stop] mixed (ih) (by kernel_rfl) ?_
    show Yes _
    repeat' apply And.intro
    (all_goals first | rfl | assumption | trivial | omega | (simp [-List.getD_eq_getElem?_getD, hk] <;> omega) | (simp (disch := omega) only [w64, wu64] <;> omega) | (simp (disch := omega) [-List.getD_eq_getElem?_getD, List.getD_cons_zero, List.getD_cons_succ, kCast_self, dfl_pair, dfl_int, w64, wu64, hk] <;> omega) | (rw [Bool.eq_iff_iff]; simp (disch := omega) [-List.getD_eq_getElem?_getD, List.getD_cons_zero, List.getD_cons_succ, kCast_self, dfl_pair, dfl_int, w64, wu64, hk] <;> omega) | (simp_all [-List.getD_eq_getElem?_getD] <;> omega))
/-- The second loop: a word is wanted, and copied; then the memory is changed. -/
theorem copies_1 (ws cs : List Int) (a n N : Nat) (ha : a ≤ 255) (hn2 : n ≤ 255) (han : a + n ≤ N) (hN : N ≤ 200) : ∀ (j k : Nat) (m : MemS) (ys : List Int), k + j = n → ys.length = k → m.words.length = N → m.faults = 0 → Goods (gCop ws cs) ⟨.none, lp Try.f5 1,
    [(2, .slice 1 0 cs.length), (7, .ptr 2 0 0), (10, .int .i64 a), (11, .int .i64 n), (12, .ptr 4 0 0), (13, .slice 5 0 k), (64, .int .i64 n), (65, .int .i64 k)],
    hp [.gone, .tab false (.int .u64) cs, memC 3 m, memT m, cpC 2 6 a n k, .tab true (.int .u64) ys, .tab true (.int .u64) ys]⟩
  | 0, k, m, ys, h, hy, hm, hf => by
    obtain rfl : k = n := by omega
    have ih := copies_2 ws cs a k ha ys hy hn2 m (by omega) m.ops rfl hf k 0 ys (by omega) hy (fun _ _ => rfl)
    have hw := cp_words m a k ys (by omega)
    rw [hy] at hw
    refine Goods.to 2000 [.b false, .c (.of (mem_ops m)), .c (.of hw), .l, .stop] mixed (ih) (by kernel_rfl) ?_
    show Yes _
    repeat' apply And.intro
    (all_goals first | rfl | assumption | trivial | omega | (simp [-List.getD_eq_getElem?_getD] <;> omega) | (simp (disch := omega) only [w64, wu64] <;> omega) | (simp (disch := omega) [-List.getD_eq_getElem?_getD, List.getD_cons_zero, List.getD_cons_succ, kCast_self, dfl_pair, dfl_int, w64, wu64] <;> omega) | (rw [Bool.eq_iff_iff]; simp (disch := omega) [-List.getD_eq_getElem?_getD, List.getD_cons_zero, List.getD_cons_succ, kCast_self, dfl_pair, dfl_int, w64, wu64] <;> omega) | (simp_all [-List.getD_eq_getElem?_getD] <;> omega))
  | j + 1, k, m, ys, h, hy, hm, hf => by
    have hin : m.inr (a + k : Nat) := ⟨by omega, by omega⟩
    have hin2 : (m.acc 1 ((a : Int) + k)).inr a := ⟨by omega, by show (a : Int) < m.words.length; omega⟩
    have hs := cp_step m a n ys (by omega) (by omega) (by omega) (by omega)
    rw [hy] at hs
    have hp := mem_peek m ((a : Int) + k)
    have e : decide ((k : Int) + 1 = n) = ((k : Int) == IntKind.i64.wrap (n - 1)) := by rw [w64 (by omega) (by omega), Bool.eq_iff_iff]; simp; omega
    have hin1 : m.inr ((a : Int) + k) := hin
    by_cases hc : k < cs.length
    · have hl1 : ((m.acc 1 ((a : Int) + k)).acc 2 a |>.put a (cs.getD k 0)).words.length = N := by rw [MemS.put_len]; exact hm
      have hin3 : ((m.acc 1 ((a : Int) + k)).acc 2 a |>.put a (cs.getD k 0)).inr ((a : Int) + n - 1) := ⟨by omega, by rw [hl1]; omega⟩
      have ih := copies_1 ws cs a n N ha hn2 han hN j (k + 1) ((((m.acc 1 ((a : Int) + k)).acc 2 a).put a (cs.getD k 0)).acc 2 ((a : Int) + n - 1) |>.put ((a : Int) + n - 1) (cs.getD k 0)) (ys ++ [m.get ((a : Int) + k)]) (by omega) (by simp [hy]) (by rw [MemS.put_len, hl1])
        (by rw [MemS.put_faults hin3, MemS.put_faults hin2, MemS.acc_faults hin1, hf])
      refine Goods.to 2000 [.b true, .c (.of hp), .c (.of (mem_ops m)), .c (.of hs), .s 84 (some false) true true, .c (.of (mem_ops (m.acc 1 ((a : Int) + k)))), .b false, .b true, .c (.of (mem_store (m.acc 1 ((a : Int) + k)) a (cs.getD k 0))), .c (.of (mem_store (((m.acc 1 ((a : Int) + k)).acc 2 a).put a (cs.getD k 0)) ((a : Int) + n - 1) (cs.getD k 0))), .l, .stop] mixed (ih) (by kernel_rfl) ?_
      show Yes _
      repeat' apply And.intro
      (all_goals first | rfl | assumption | trivial | omega | (simp [-List.getD_eq_getElem?_getD, e, MemS.acc_ops, inc] <;> omega) | (simp (disch := omega) only [w64, wu64] <;> omega) | (simp (disch := omega) [-List.getD_eq_getElem?_getD, List.getD_cons_zero, List.getD_cons_succ, kCast_self, dfl_pair, dfl_int, w64, wu64, e, MemS.acc_ops, inc] <;> omega) | (rw [Bool.eq_iff_iff]; simp (disch := omega) [-List.getD_eq_getElem?_getD, List.getD_cons_zero, List.getD_cons_succ, kCast_self, dfl_pair, dfl_int, w64, wu64, e, MemS.acc_ops, inc] <;> omega) | (simp_all [-List.getD_eq_getElem?_getD] <;> omega))
    · have ih := copies_1 ws cs a n N ha hn2 han hN j (k + 1) (m.acc 1 ((a : Int) + k)) (ys ++ [m.get ((a : Int) + k)]) (by omega) (by simp [hy]) hm (by rw [MemS.acc_faults hin1, hf])
      refine Goods.to 2000 [.b true, .c (.of hp), .c (.of (mem_ops m)), .c (.of hs), .s 84 (some false) true true, .c (.of (mem_ops (m.acc 1 ((a : Int) + k)))), .b false, .b false, .l, .stop] mixed (ih) (by kernel_rfl) ?_
      show Yes _
      repeat' apply And.intro
      (all_goals first | rfl | assumption | trivial | omega | (simp [-List.getD_eq_getElem?_getD, e, MemS.acc_ops, inc] <;> omega) | (simp (disch := omega) only [w64, wu64] <;> omega) | (simp (disch := omega) [-List.getD_eq_getElem?_getD, List.getD_cons_zero, List.getD_cons_succ, kCast_self, dfl_pair, dfl_int, w64, wu64, e, MemS.acc_ops, inc] <;> omega) | (rw [Bool.eq_iff_iff]; simp (disch := omega) [-List.getD_eq_getElem?_getD, List.getD_cons_zero, List.getD_cons_succ, kCast_self, dfl_pair, dfl_int, w64, wu64, e, MemS.acc_ops, inc] <;> omega) | (simp_all [-List.getD_eq_getElem?_getD] <;> omega))
/-- The first loop: the words are stored. -/
theorem copies_0 (ws cs : List Int) (x y : Nat) (hx : x ≤ 255) (hy : y ≤ 255) (hN : ws.length ≤ 200) (hM : cs.length ≤ 200) : ∀ (j k : Nat) (m : MemS), k + j = ws.length → m.words.length = ws.length → m.faults = 0 → Goods (gCop ws cs) ⟨.none, lp Try.f5 0,
    [(0, .slice 0 0 ws.length), (2, .slice 1 0 cs.length), (4, .ptr 4 0 0), (7, .ptr 2 0 0), (34, .slice 0 0 ws.length), (35, .int .i64 ws.length), (36, .int .i64 k)],
    hp [.tab false (.int .u64) ws, .tab false (.int .u64) cs, memC 3 m, memT m, .cells [.int .u8 x, .int .u8 y]]⟩
  | 0, k, m, h, hm, hf => by
    have ih := copies_1 ws cs (min x ws.length) (min y (ws.length - min x ws.length)) ws.length (by omega) (by omega) (by omega) hN (min y (ws.length - min x ws.length)) 0 m [] (by omega) rfl hm hf
    have hc := slot_copy m (min x ws.length : Nat) (min y (ws.length - min x ws.length) : Nat)
    refine Goods.to 2000 [.b false, .c (.of hc), .l, .stop] mixed (ih) (by kernel_rfl) ?_
    show Yes _
    repeat' apply And.intro
    (all_goals first | rfl | assumption | trivial | omega | (simp [-List.getD_eq_getElem?_getD] <;> omega) | (simp (disch := omega) only [w64, wu64] <;> omega) | (simp (disch := omega) [-List.getD_eq_getElem?_getD, List.getD_cons_zero, List.getD_cons_succ, kCast_self, dfl_pair, dfl_int, w64, wu64] <;> omega) | (rw [Bool.eq_iff_iff]; simp (disch := omega) [-List.getD_eq_getElem?_getD, List.getD_cons_zero, List.getD_cons_succ, kCast_self, dfl_pair, dfl_int, w64, wu64] <;> omega) | (simp_all [-List.getD_eq_getElem?_getD] <;> omega))
  | j + 1, k, m, h, hm, hf => by
    have hin : m.inr k := ⟨by omega, by omega⟩
    have ih := copies_0 ws cs x y hx hy hN hM j (k + 1) ((m.acc 2 k).put k (ws.getD k 0)) (by omega) (by rw [MemS.put_len, hm]) (by rw [MemS.put_faults hin, hf])
    refine Goods.to 2000 [.b true, .c (.of (mem_store m k (ws.getD k 0))), .l, .stop] mixed (ih) (by kernel_rfl) ?_
    show Yes _
    repeat' apply And.intro
    (all_goals first | rfl | assumption | trivial | omega | (simp [-List.getD_eq_getElem?_getD] <;> omega) | (simp (disch := omega) only [w64, wu64] <;> omega) | (simp (disch := omega) [-List.getD_eq_getElem?_getD, List.getD_cons_zero, List.getD_cons_succ, kCast_self, dfl_pair, dfl_int, w64, wu64] <;> omega) | (rw [Bool.eq_iff_iff]; simp (disch := omega) [-List.getD_eq_getElem?_getD, List.getD_cons_zero, List.getD_cons_succ, kCast_self, dfl_pair, dfl_int, w64, wu64] <;> omega) | (simp_all [-List.getD_eq_getElem?_getD] <;> omega))
theorem SlotCopies_tri (ws cs : List Int) (x y : Nat) (hx : x ≤ 255) (hy : y ≤ 255) : Tri En 5 [.slice 0 0 ws.length, .agg [.int .u8 x, .int .u8 y], .slice 1 0 cs.length] [.tab false (.int .u64) ws, .tab false (.int .u64) cs] (.bl true) (gones 2) := by
  refine Tri.of Try.func5 rfl Try.call5 rfl ?_
  by_cases h1 : 200 < ws.length
  · refine Goods.fin 2000 [.c (.of speaks_tri), .s 25 (some true) true true] mixed Try.func5 ?_
    show Yes _
    repeat' apply And.intro
    (all_goals first | rfl | assumption | trivial | omega | (simp [-List.getD_eq_getElem?_getD] <;> omega) | (simp (disch := omega) only [w64, wu64] <;> omega) | (simp (disch := omega) [-List.getD_eq_getElem?_getD, List.getD_cons_zero, List.getD_cons_succ, kCast_self, dfl_pair, dfl_int, w64, wu64] <;> omega) | (rw [Bool.eq_iff_iff]; simp (disch := omega) [-List.getD_eq_getElem?_getD, List.getD_cons_zero, List.getD_cons_succ, kCast_self, dfl_pair, dfl_int, w64, wu64] <;> omega) | (simp_all [-List.getD_eq_getElem?_getD] <;> omega))
  · by_cases h2 : 200 < cs.length
    · refine Goods.fin 2000 [.c (.of speaks_tri), .s 25 (some false) true true, .b true] mixed Try.func5 ?_
      show Yes _
      repeat' apply And.intro
      (all_goals first | rfl | assumption | trivial | omega | (simp [-List.getD_eq_getElem?_getD] <;> omega) | (simp (disch := omega) only [w64, wu64] <;> omega) | (simp (disch := omega) [-List.getD_eq_getElem?_getD, List.getD_cons_zero, List.getD_cons_succ, kCast_self, dfl_pair, dfl_int, w64, wu64] <;> omega) | (rw [Bool.eq_iff_iff]; simp (disch := omega) [-List.getD_eq_getElem?_getD, List.getD_cons_zero, List.getD_cons_succ, kCast_self, dfl_pair, dfl_int, w64, wu64] <;> omega) | (simp_all [-List.getD_eq_getElem?_getD] <;> omega))
    · have hm := mem_new ws.length
      have e : (min (max (ws.length : Int) 0) 16777216).toNat = ws.length := by omega
      rw [e] at hm
      have ih := copies_0 ws cs x y hx hy (by omega) (by omega) ws.length 0 ⟨List.replicate ws.length 0, 0, 0, 0, 0⟩ (by omega) (by simp) rfl
      refine Goods.to 2000 [.c (.of speaks_tri), .s 25 (some false) true true, .b false, .c (.of hm), .l, .stop] mixed (ih) (by kernel_rfl) ?_
      show Yes _
      repeat' apply And.intro
      (all_goals first | rfl | assumption | trivial | omega | (simp [-List.getD_eq_getElem?_getD] <;> omega) | (simp (disch := omega) only [w64, wu64] <;> omega) | (simp (disch := omega) [-List.getD_eq_getElem?_getD, List.getD_cons_zero, List.getD_cons_succ, kCast_self, dfl_pair, dfl_int, w64, wu64] <;> omega) | (rw [Bool.eq_iff_iff]; simp (disch := omega) [-List.getD_eq_getElem?_getD, List.getD_cons_zero, List.getD_cons_succ, kCast_self, dfl_pair, dfl_int, w64, wu64] <;> omega) | (simp_all [-List.getD_eq_getElem?_getD] <;> omega))
theorem SlotCopies_law (d : dats ([(false, (.slice (.int .u64))), (true, (E.Sh.rep (.int .u8) 2)), (false, (.slice (.int .u64)))] : List (Bool × Sh))) (hd : datsOk ([(false, (.slice (.int .u64))), (true, (E.Sh.rep (.int .u8) 2)), (false, (.slice (.int .u64)))] : List (Bool × Sh)) d) : Tri En 5 (argsOf ([(false, (.slice (.int .u64))), (true, (E.Sh.rep (.int .u8) 2)), (false, (.slice (.int .u64)))] : List (Bool × Sh)) d 0) (objsOf ([(false, (.slice (.int .u64))), (true, (E.Sh.rep (.int .u8) 2)), (false, (.slice (.int .u64)))] : List (Bool × Sh)) d) (.bl true) (gones (cnts ([(false, (.slice (.int .u64))), (true, (E.Sh.rep (.int .u8) 2)), (false, (.slice (.int .u64)))] : List (Bool × Sh)))) := by
  obtain ⟨ws, ⟨x, y, _⟩, cs, _⟩ := d
  obtain ⟨_, ⟨h0, h1, _⟩, _, _⟩ := hd
  obtain ⟨x, rfl, hx⟩ := wf_u8 h0
  obtain ⟨y, rfl, hy⟩ := wf_u8 h1
  exact SlotCopies_tri ws cs x y hx hy
end Go.Proofs.Ytfclnofmhnapnaa.E
